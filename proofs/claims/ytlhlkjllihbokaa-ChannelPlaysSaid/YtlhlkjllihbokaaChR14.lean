/- The reference's channel by the program: what is open; two lists of numbers. -/
import Derived.Test.YtlhlkjllihbokaaChR14P
import Derived.Test.YtlhlkjllihbokaaChTk
import Derived.Test.YtlhlkjllihbokaaSame
set_option linter.unusedVariables false
set_option linter.unusedSimpArgs false
namespace Go.Proofs.Ytlhlkjllihbokaa.R14
open Go.Sort Go.RowKit Go.Proofs.Ytlhlkjllihbokaa.Mem Go.Proofs.Ytlhlkjllihbokaa.Open Go.Proofs.Ytlhlkjllihbokaa.Num Go.Proofs.Ytlhlkjllihbokaa.Step Go.Proofs.Ytlhlkjllihbokaa.Ser Go.Proofs.Ytlhlkjllihbokaa.Chan Go.Proofs.YtlhlkjllihbokaaW.PrintWords

def RS (W : World) (B : Nat) (w : World) (b : Nat) (x : Win) (L : List Bool) (F : List Ent) : Prop :=
  ∃ v, Holds W B w (.st b [.int .i64 (L.length : Int), .bool x.any, .int .u16 x.last, .int .u32 x.mask, v] 82 :: .rw v 4 1 L.length (bls L) :: F)

theorem m_facts {k n : Nat} (h : k < n) (hn : n ≤ 1000) : (k : Int).tmod 65536 = (k : Int) ∧ (k : Int) % 65536 = (k : Int) ∧ IntKind.u16.wrap (k : Int) = (k : Int) ∧ IntKind.i64.wrap (k : Int) = (k : Int) := by
  rw [wrap_i64, wrap_u16, Int.tmod_eq_emod_of_nonneg (by omega)]; unfold wrap64; omega

set_option maxRecDepth 100000 in
set_option maxHeartbeats 1000000 in
theorem ropen (W : World) (B : Nat) (w : World) (b : Nat) (x : Win) (L : List Bool) (F : List Ent) (hl : L.length ≤ 1000) (hH : RS W B w b x L F) :
    Calls Try.prog 37 #[.pointer (some ⟨b, 0, none⟩)] w fun e' w' => ∃ v', e' = .returned v' ∧ RS W B w' b x L (.rw v' 22 1 (opn 0 L).length (u16s (opn 0 L)) :: F) := by
  obtain ⟨i0, hi, hz0, hz1, hz2⟩ := info_parts info_u16
  obtain ⟨v, hH⟩ := hH
  obtain ⟨A, c, rfl⟩ := hH.up1.slice
  obtain ⟨any, last, mask⟩ := x
  dsimp only at hH
  have HH := Lib.hid hH
  have HL := Lib.hid hl
  clear hH hl
  go_enter Try.func37, Try.ntmps37
  go_wp2_with fail
  go_loopw [3, 4] (fun ov i wr => ∃ k : Nat, Hid (k ≤ L.length) ∧ i = .int .i64 k ∧ Hid (Holds W B wr (.rw ov 22 1 (opn 0 (L.take k)).length (u16s (opn 0 (L.take k))) :: .st b [.int .i64 (L.length : Int), .bool any, .int .u16 last, .int .u32 mask, .slice A L.length c] 82 :: .rw (.slice A L.length c) 4 1 L.length (bls L) :: F)))
    (fun _ i _ => L.length - (intOf i).toNat)
  case atStart => exact ⟨0, Lib.hid (Nat.zero_le _), rfl, Lib.hid (HH.out.nilrow _ _)⟩
  case round =>
    obtain ⟨k, HK, rfl, HC⟩ := hrel
    clear HH
    have e4 := HC.out.up1.cell 4 (v := .slice A L.length c) rfl
    obtain ⟨Ao, co, rfl⟩ := HC.out.slice
    by_cases hkn : k < L.length
    · obtain ⟨k0, k1, k2, k3⟩ := k_facts hkn HL.out
      obtain ⟨m0, m1, m2, m3⟩ := m_facts hkn HL.out
      obtain ⟨g, cap, he, _⟩ := HC.out.up2.row (Nat.lt_of_le_of_lt (Nat.zero_le _) hkn)
      simp only [Value.slice.injEq, true_and] at he
      obtain ⟨rfl, rfl⟩ := he
      have hlk : L[k]? = some L[k] := List.getElem?_eq_getElem hkn
      have ek := (HC.out.up2.rcell k (by rw [Nat.mul_one]; exact hkn)).trans (bls_at _ _ _ hlk)
      have hnx := opn_take L k _ hlk
      obtain ⟨bb, hbb⟩ : ∃ bb, L[k] = bb := ⟨_, rfl⟩
      rw [hbb] at ek hnx
      have hln : (opn 0 (L.take k)).length ≤ 1000 := by rw [opn_len]; exact Nat.le_trans (List.count_le_length ..) (Nat.le_trans (List.length_take_le _ _) (Nat.le_trans (Nat.le_of_lt hkn) HL.out))
      have HLN := Lib.hid hln
      have HNX := Lib.hid hnx
      have HKN := Lib.hid hkn
      clear hlk hbb hln hnx hkn
      cases bb with
      | false =>
        go_wp2_with fail
        refine ⟨⟨k + 1, Lib.hid HKN.out, by go_num, ?_⟩, by have := HKN.out; simp [intOf]; omega⟩
        rw [HNX.out, if_neg (by decide), List.append_nil]
        exact HC
      | true =>
        have hA := HC.out.alloc' (.cells #[.int .u16 (k : Int)] 22)
        have HA := Lib.hid hA
        clear hA HC
        go_wp2_with (at_builtin; refine wpList_append_one rfl (.tmp 21) (.tmp 25) _ rfl 22 i0 _ 1 2 Try.underlying27 hi hz0 hz1 hz2 rfl (by decide) rfl HA.out [.int .u16 (k : Int)] rfl rfl ?p1 ?p2 ?p3 ?p4 ?_)
        case p2 => rfl
        case p3 => exact Nat.le_trans HLN.out (by decide)
        intro v3 w3 h3
        obtain ⟨A3, c3, rfl⟩ := h3.slice
        have hZ : Hid (Holds W B w3 (.rw (.slice A3 ((opn 0 (L.take k)).length + 1 : Nat) c3) 22 1 (opn 0 (L.take (k + 1))).length (u16s (opn 0 (L.take (k + 1)))) :: .st b [.int .i64 (L.length : Int), .bool any, .int .u16 last, .int .u32 mask, .slice (some ⟨g, 0, none⟩) L.length c] 82 :: .rw (.slice (some ⟨g, 0, none⟩) L.length c) 4 1 L.length (bls L) :: F)) := by
          rw [HNX.out, if_pos trivial]
          rw [show u16s (opn 0 (L.take k) ++ [(k : Int)]) = u16s (opn 0 (L.take k)) ++ [.int .u16 (k : Int)] by simp [u16s], List.length_append, List.length_singleton]
          exact h3
        clear h3 HA HNX
        go_wp2_with fail
        refine ⟨⟨k + 1, Lib.hid HKN.out, by go_num, hZ⟩, by have := HKN.out; simp [intOf]; omega⟩
    · obtain rfl : k = L.length := Nat.le_antisymm HK.out (Nat.le_of_not_lt hkn)
      have k1 : ¬ (L.length : Int) < (L.length : Int) := Int.lt_irrefl _
      rw [List.take_length] at HC
      clear hkn
      go_wp2_with fail
      go_ret
      exact ⟨_, rfl, _, (Holds.sel [_, _, _] HC.out [1, 2, 0] rfl)⟩

end Go.Proofs.Ytlhlkjllihbokaa.R14
