/- The reference's reader of bits: New, and Take whatever its state. -/
import Derived.Test.YtpnnalkihcemhaaRcvP
import Derived.Test.YtpnnalkihcemhaaRef6c
import Derived.Lib.QuietBelow
import Derived.BigQuiet
set_option linter.unusedVariables false
set_option linter.unusedSimpArgs false
namespace Go.Proofs.Ytpnnalkihcemhaa.Str
open Go.Sort Go.RowKit Go.Proofs.Ytpnnalkihcemhaa.Mem Go.Proofs.Ytpnnalkihcemhaa.Bits Go.Proofs.Ytpnnalkihcemhaa.Wr Go.Proofs.Ytpnnalkihcemhaa.Num Go.Proofs.Ytpnnalkihcemhaa.Step Go.Proofs.YtpnnalkihcemhaaW.PrintWords

/-- The reference's reader of the bits l at the head of block b. -/
def HasRR (W : World) (B : Nat) (w : World) (b : Nat) (l : List Bool) (at_ : Nat) (fl : Bool) (F : List Ent) : Prop :=
  ∃ v, Holds W B w (.st b [v, .int .i64 (at_ : Int), .bool fl] 126 :: .rw v 4 1 l.length (bools l) :: F)

theorem bitsB_take (bs : List Int) (k : Nat) (h : k < bs.length) : bitsB (bs.take (k + 1)) = bitsB (bs.take k) ++ bitsOf (bs[k]?.getD 0) 8 := by
  unfold bitsB
  rw [List.take_add_one, List.flatMap_append, List.getElem?_eq_getElem h]
  simp

theorem b_range {bs : List Int} (hb : bytesOk bs) (k : Nat) : 0 ≤ bs[k]?.getD 0 ∧ bs[k]?.getD 0 < 256 := by
  by_cases h : k < bs.length
  · rw [List.getElem?_eq_getElem h]
    exact hb.2 _ (List.getElem_mem h)
  · rw [List.getElem?_eq_none (by omega)]
    decide
theorem u64_b {x : Int} (h : 0 ≤ x ∧ x < 256) : IntKind.u64.wrap x = x ∧ x % 18446744073709551616 = x ∧ x < 18446744073709551616 := by rw [wrap_u64]; omega
theorem kk_facts {k n : Nat} (h : k < n) (hn : n ≤ 100000000) : (0 : Int) ≤ (k : Int) ∧ (k : Int) < (n : Int) ∧ wrap64 ((k : Int) + 1) = (k : Int) + 1 ∧ IntKind.i64.wrap ((k : Int) + 1) = (k : Int) + 1 := by rw [wrap_i64]; unfold wrap64; omega
theorem num_at {bs : List Int} {x : Nat} (h : x < bs.length) : (nums .u8 bs)[x]? = some (.int .u8 (bs[x]?.getD 0)) := by
  rw [nums, List.getElem?_map, List.getElem?_eq_getElem h]
  rfl
theorem bl_len {bs : List Int} {k : Nat} (h : k ≤ bs.length) (hb : bs.length ≤ 100000000) : (bitsB (bs.take k)).length + 64 ≤ 1000000000 := by
  rw [bitsB_length, List.length_take]; omega

set_option maxHeartbeats 1000000 in
theorem rof (W w : World) (F : List Ent) (v : Value) (bs : List Int) (hH : Holds W W.heap.size w F) (hr : Rd W v bs.length (nums .u8 bs)) (hb : bytesOk bs) :
    Calls Try.prog 55 #[v] w fun e' w' => ∃ v', e' = .returned v' ∧ Holds W W.heap.size w' (.rw v' 4 1 (bitsB bs).length (bools (bitsB bs)) :: F) := by
  obtain ⟨A, c, rfl, hc, hm, hrr⟩ := Rd.form hr (nums_length _ _)
  have HR := Lib.hid hrr
  have hf := rfresh hH 78
  have HF := Lib.hid hf
  have HB := Lib.hid hb
  clear hr hrr hf hH hm hc hb
  go_enter Try.func55, Try.ntmps55
  go_wp2_with fail
  obtain ⟨bb, hbb⟩ : ∃ bb, w.heap.size = bb := ⟨_, rfl⟩
  rw [hbb] at HF ⊢
  clear hbb
  go_loopw [4] (fun i wr => ∃ k : Nat, k ≤ bs.length ∧ i = .int .i64 k ∧ HasB W W.heap.size wr bb 78 (bitsB (bs.take k)) F) (fun i _ => bs.length - (intOf i).toNat)
  case atStart => exact ⟨0, Nat.zero_le _, rfl, HF.out⟩
  case round =>
    obtain ⟨k, hk, rfl, hH⟩ := hrel
    clear HF
    by_cases hkn : k < bs.length
    · obtain ⟨k0, k1, k2, k3⟩ := kk_facts hkn HB.out.1
      have HK := Lib.hid k2
      obtain ⟨b, off, rfl, hlt, hcell⟩ := HR.out k hkn
      have hbel : Below W.heap.size W wr := by obtain ⟨_, h⟩ := hH; exact h.below
      obtain ⟨y, hy⟩ : ∃ y, bs[k]?.getD 0 = y := ⟨_, rfl⟩
      have hcv := hcell _ (num_at hkn)
      rw [hy] at hcv
      have ck := (hbel.cell (p := ⟨b, off + k, none⟩) hlt).trans hcv
      have hrg := b_range HB.out k
      rw [hy] at hrg
      have HY := Lib.hid hy
      obtain ⟨z1, z2, z3⟩ := u64_b hrg
      have hp := rput W W.heap.size wr bb _ _ F y 8 hH hrg.1 z3 (by decide) (by decide) (bl_len hk HB.out.1)
      have HP := Lib.hid hp
      clear hH hcell hcv hbel hp hrg hy k2 k3
      go_wp2_with fail
      refine HP.out.mono ?_
      rintro e' w2 ⟨rfl, h2⟩
      have H2 := Lib.hid h2
      clear h2 HP ck z1 z2 z3
      go_wp2_with fail
      try rw [HK.out]
      refine ⟨⟨k + 1, hkn, cast_succ k, ?_⟩, succ_less hkn⟩
      rw [bitsB_take bs k hkn, HY.out]
      exact H2.out
    · obtain rfl : k = bs.length := Nat.le_antisymm hk (Nat.le_of_not_lt hkn)
      rw [List.take_length] at hH
      obtain ⟨vv, hh⟩ := hH
      obtain ⟨A2, c2, rfl⟩ := hh.up1.slice
      have cv := hh.cell 0 rfl
      have HH := Lib.hid hh
      clear hh
      go_wp2_with fail
      go_ret
      exact ⟨_, rfl, HH.out.tail⟩

theorem rrnew (W w : World) (F : List Ent) (v : Value) (bs : List Int) (hH : Holds W W.heap.size w F) (hr : Rd W v bs.length (nums .u8 bs)) (hb : bytesOk bs) :
    Calls Try.prog 38 #[v] w fun e' w' => ∃ b, e' = .returned (.pointer (some ⟨b, 0, none⟩)) ∧ HasRR W W.heap.size w' b (bitsB bs) 0 false F := by
  have hp := rof W w F v bs hH hr hb
  have HP := Lib.hid hp
  clear hp hH hr hb
  go_enter Try.func38, Try.ntmps38
  go_wp2_with fail
  refine HP.out.mono ?_
  rintro e' w1 ⟨v', rfl, h1⟩
  obtain ⟨A, c, rfl⟩ := h1.slice
  have H2 := Lib.hid (h1.alloc [.slice A (bitsB bs).length c, .int .i64 0, .bool false] 126)
  clear h1 HP
  go_wp2_with fail
  go_ret
  exact ⟨w1.heap.size, rfl, .slice A (bitsB bs).length c, H2.out⟩

end Go.Proofs.Ytpnnalkihcemhaa.Str
