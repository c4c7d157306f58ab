/- Which message a part is of; by the program. -/
import Derived.Test.YtpnnalkihcemhaaFeedM
set_option linter.unusedVariables false
set_option linter.unusedSimpArgs false
namespace Go.Proofs.Ytpnnalkihcemhaa.Frag
open Go.Sort Go.RowKit Go.Deep Go.Proofs.Ytpnnalkihcemhaa.Mem Go.Proofs.Ytpnnalkihcemhaa.Open Go.Proofs.Ytpnnalkihcemhaa.Num Go.Proofs.Ytpnnalkihcemhaa.Wr Go.Proofs.Ytpnnalkihcemhaa.Step Go.Proofs.YtpnnalkihcemhaaW.PrintWords

def isM (id n : Int) (k : Int × Int) : Bool := (k.1 == id) && (k.2 == n)

theorem fclo (w : World) (g8 g9 : Nat) (id n i c : Int) (mv : Option Nat) (h8 : w.cell? ⟨g8, 0, none⟩ = some (.int .u16 id)) (h9 : w.cell? ⟨g9, 0, none⟩ = some (.int .i64 n)) :
    Calls Try.prog 47 #[.agg #[.int .u16 i, .int .i64 c, .map mv], .pointer (some ⟨g8, 0, none⟩), .pointer (some ⟨g9, 0, none⟩)] w fun e' w' => e' = .returned (.bool (isM id n (i, c))) ∧ Below w.heap.size w w' := by
  have h1 := (Holds.start w).alloc [.int .u16 i, .int .i64 c, .map mv] 111
  have hb := h1.below
  have l8 : g8 < w.heap.size := World.block_lt_of_cell? w _ h8
  have l9 : g9 < w.heap.size := World.block_lt_of_cell? w _ h9
  have HB := Lib.hid hb
  clear h1 hb
  by_cases e1 : i = id
  · have t1 : (i == id) = true := by rw [e1]; exact beq_self_eq_true id
    by_cases e2 : c = n
    · have t2 : (c == n) = true := by rw [e2]; exact beq_self_eq_true n
      clear e1 e2
      go_enter Try.func47, Try.ntmps47
      go_wp2_with fail
      go_ret
      exact ⟨by unfold isM; rw [t1, t2]; rfl, HB.out⟩
    · have t2 : (c == n) = false := beq_eq_false_iff_ne.2 e2
      clear e1 e2
      go_enter Try.func47, Try.ntmps47
      go_wp2_with fail
      go_ret
      exact ⟨by unfold isM; rw [t1, t2]; rfl, HB.out⟩
  · have t1 : (i == id) = false := beq_eq_false_iff_ne.2 e1
    clear e1
    go_enter Try.func47, Try.ntmps47
    go_wp2_with fail
    go_ret
    exact ⟨by unfold isM; rw [t1]; rfl, HB.out⟩

/-- The cells of a message: its id, its count, its map. -/
def mcells (x : (Int × Int) × Nat) : List Value := [.int .u16 x.1.1, .int .i64 x.1.2, .map (some x.2)]
theorem mcells_three (L : List ((Int × Int) × Nat)) : Three (L.map mcells) := by
  intro x hx
  obtain ⟨y, _, rfl⟩ := List.mem_map.1 hx
  refine ⟨rfl, fun u hu => ?_⟩
  simp [mcells] at hu
  rcases hu with rfl | rfl | rfl <;> rfl
/-- The first message that a part is of. -/
def IdxM (w : World) (id n : Int) (L : List ((Int × Int) × Nat)) (e' : Ending) (w' : World) : Prop :=
  Below w.heap.size w w' ∧ ((∃ (k : Nat) (hk : k < L.length), e' = .returned (.int .i64 (k : Int)) ∧ (∀ j (hj : j < L.length), j < k → isM id n L[j].1 = false) ∧ isM id n L[k].1 = true) ∨
    (e' = .returned (.int .i64 (-1)) ∧ ∀ j (hj : j < L.length), isM id n L[j].1 = false))
theorem first_nextM {id n : Int} {L : List ((Int × Int) × Nat)} {k : Nat} (h : k < L.length) (h1 : ∀ j (hj : j < L.length), j < k → isM id n L[j].1 = false) (h2 : isM id n L[k].1 = false) : ∀ j (hj : j < L.length), j < k + 1 → isM id n L[j].1 = false := by
  intro j hj hjk
  rcases Nat.lt_succ_iff_lt_or_eq.1 hjk with h3 | rfl
  · exact h1 j hj h3
  · exact h2
theorem fi_facts {k n : Nat} (h : k < n) (hn : n ≤ 1000) : (0 : Int) ≤ (k : Int) ∧ (k : Int) < (n : Int) ∧ wrap64 ((k : Int) + 1) = (k : Int) + 1 ∧ IntKind.i64.wrap ((k : Int) + 1) = (k : Int) + 1 := by rw [wrap_i64]; unfold wrap64; omega
theorem fi_down {j n : Nat} (h : j < n) : n - (intOf (Value.int .i64 ((j : Int) + 1))).toNat < n - (intOf (Value.int .i64 (j : Int))).toNat := by simp [intOf]; omega

set_option maxRecDepth 100000 in
set_option maxHeartbeats 2000000 in
theorem fidx (W : World) (B : Nat) (w : World) (g8 g9 : Nat) (id n : Int) (L : List ((Int × Int) × Nat)) (v : Value) (F : List Ent) (hl : L.length ≤ 1000)
    (hH : Holds W B w (.st g8 [.int .u16 id] 22 :: .st g9 [.int .i64 n] 3 :: .rw v 111 3 L.length (rows3 (L.map mcells)) :: F)) :
    Calls Try.prog 46 #[v, .func (.func 47) #[] #[.pointer (some ⟨g8, 0, none⟩), .pointer (some ⟨g9, 0, none⟩)]] w fun e' w' => IdxM w id n L e' w' := by
  obtain ⟨A, c, rfl⟩ := hH.up2.slice
  have HH := Lib.hid hH
  have HL := Lib.hid hl
  clear hH hl
  go_enter Try.func46, Try.ntmps46
  go_wp2_with fail
  go_loopw [8] (fun i wr => ∃ k : Nat, Hid (k ≤ L.length) ∧ i = .int .i64 k ∧ Hid (∀ j (hj : j < L.length), j < k → isM id n L[j].1 = false) ∧ Hid (Below w.heap.size w wr)) (fun i _ => L.length - (intOf i).toNat)
  case atStart => exact ⟨0, Lib.hid (Nat.zero_le _), rfl, Lib.hid (fun j _ h => absurd h (Nat.not_lt_zero _)), Lib.hid (Below.refl _ _)⟩
  case round =>
    obtain ⟨k, HK, rfl, HF, HB⟩ := hrel
    have hC := Holds.belowed HH.out HB.out
    by_cases hkn : k < L.length
    · obtain ⟨g, cap, he, _⟩ := hC.up2.row (Nat.lt_of_le_of_lt (Nat.zero_le _) hkn)
      simp only [Value.slice.injEq, true_and] at he
      obtain ⟨rfl, rfl⟩ := he
      have hkL : k < (L.map mcells).length := by rw [List.length_map]; exact hkn
      have hx : (L.map mcells)[k] = mcells L[k] := by rw [List.getElem_map]
      have q0 := (hC.up2.rcell (k * 3 + 0) (by omega)).trans (rows3_at (mcells_three L) k hkL 0 (by decide))
      have q1 := (hC.up2.rcell (k * 3 + 1) (by omega)).trans (rows3_at (mcells_three L) k hkL 1 (by decide))
      have q2 := (hC.up2.rcell (k * 3 + 2) (by omega)).trans (rows3_at (mcells_three L) k hkL 2 (by decide))
      rw [hx] at q0 q1 q2
      obtain ⟨k0, k1, k2, k3⟩ := fi_facts hkn HL.out
      have hno := fun (h : isM id n (L[k]).1 = false) => first_nextM hkn HF.out h
      obtain ⟨⟨⟨i, cc⟩, mb⟩, hy⟩ : ∃ y, L[k] = y := ⟨_, rfl⟩
      rw [hy] at q0 q1 q2 hno
      simp only [mcells, List.getElem?_cons_zero, List.getElem?_cons_succ, Nat.add_zero] at q0 q1 q2
      have hcl := fclo wr g8 g9 id n i cc (some mb) (hC.cell 0 rfl) (hC.up1.cell 0 rfl)
      obtain ⟨bb, hbb⟩ : ∃ bb, isM id n (i, cc) = bb := ⟨_, rfl⟩
      rw [hbb] at hcl
      have HY := Lib.hid (And.intro hy hbb)
      have HNO := Lib.hid hno
      have HCL := Lib.hid hcl
      have HKN := Lib.hid hkn
      clear hC hkL hx hy hbb hno hcl
      go_wp2_with fail
      refine HCL.out.mono ?_
      rintro e' w1 ⟨rfl, hb1⟩
      have HB1 := Lib.hid (HB.out.trans (hb1.mono HB.out.size))
      clear hb1 HCL
      cases bb with
      | true =>
        go_wp2_with fail
        go_ret
        exact ⟨HB1.out, .inl ⟨k, HKN.out, rfl, HF.out, by rw [HY.out.1]; exact HY.out.2⟩⟩
      | false =>
        go_wp2_with fail
        exact ⟨⟨k + 1, Lib.hid HKN.out, by go_num, Lib.hid (HNO.out HY.out.2), HB1⟩, fi_down HKN.out⟩
    · obtain rfl : k = L.length := Nat.le_antisymm HK.out (Nat.le_of_not_lt hkn)
      have k1 : ¬ (L.length : Int) < (L.length : Int) := Int.lt_irrefl _
      clear hC hkn
      go_wp2_with fail
      go_ret
      exact ⟨HB.out, .inr ⟨rfl, fun j hj => HF.out j hj hj⟩⟩

end Go.Proofs.Ytpnnalkihcemhaa.Frag
