/- Entities: formed, by the program and by the reference. -/
import Derived.Test.YtfcncmhcmbghpaaEnt
set_option linter.unusedVariables false
set_option linter.unusedSimpArgs false
namespace Go.Proofs.Ytfcncmhcmbghpaa.Ents
open Go.RowKit Go.Proofs.Ytfcncmhcmbghpaa.Mem Go.Proofs.Ytfcncmhcmbghpaa.Open Go.Proofs.Ytfcncmhcmbghpaa.Num

theorem Holds.belowed {W w w' : World} {B : Nat} {H : List Ent} (h : Holds W B w H) (hb : Below w.heap.size w w') : Holds W B w' H :=
  h.same ⟨hb.os, hb.tape, hb.output, hb.size, fun k hk _ => hb.block k hk⟩

set_option maxHeartbeats 4000000 in
theorem eformed (w : World) (e : Enty) : Calls Try.prog 14 #[e.val] w fun e' w' => e' = .returned (.bool (decide (EFrm e))) ∧ Below w.heap.size w w' := by
  obtain ⟨id, kind, x, y, vx, vy, hp, wt⟩ := e
  obtain ⟨kb, hkb⟩ : ∃ kb, decide (KindOk ⟨id, kind, x, y, vx, vy, hp, wt⟩) = kb := ⟨_, rfl⟩
  obtain ⟨vb, hvb⟩ : ∃ vb, decide (VecOk x y) = vb := ⟨_, rfl⟩
  obtain ⟨s1, hs1⟩ : ∃ s1, decide (SlowOk vx) = s1 := ⟨_, rfl⟩
  obtain ⟨s2, hs2⟩ : ∃ s2, decide (SlowOk vy) = s2 := ⟨_, rfl⟩
  have hk : ∀ w', Calls Try.prog 35 #[.agg #[.int .i64 id, .int .i64 kind, .int .i64 x, .int .i64 y, .int .i64 vx, .int .i64 vy, .int .i64 hp, .int .i64 wt]] w' fun e' w'' => e' = .returned (.bool kb) ∧ Below w'.heap.size w' w'' := fun w' => by
    have := ekind w' ⟨id, kind, x, y, vx, vy, hp, wt⟩; rw [hkb] at this; exact this
  have hv : ∀ w', Calls Try.prog 36 #[.agg #[.int .i64 x, .int .i64 y]] w' fun e' w'' => e' = .returned (.bool vb) ∧ Below w'.heap.size w' w'' := fun w' => by
    have := vformed w' x y; rw [hvb] at this; exact this
  have ha : ∀ w', Calls Try.prog 37 #[.int .i64 vx] w' fun e' w'' => e' = .returned (.bool s1) ∧ w' = w'' := fun w' => by
    have := slow w' vx; rw [hs1] at this; exact this
  have hb : ∀ w', Calls Try.prog 37 #[.int .i64 vy] w' fun e' w'' => e' = .returned (.bool s2) ∧ w' = w'' := fun w' => by
    have := slow w' vy; rw [hs2] at this; exact this
  have HK := Lib.hid hk
  have HV := Lib.hid hv
  have HA := Lib.hid ha
  have HB := Lib.hid hb
  have H1 := Lib.hid hkb
  have H2 := Lib.hid hvb
  have H3 := Lib.hid hs1
  have H4 := Lib.hid hs2
  clear hk hv ha hb hkb hvb hs1 hs2
  have HX := Lib.hid ((Holds.start w).alloc [.int .i64 id, .int .i64 kind, .int .i64 x, .int .i64 y, .int .i64 vx, .int .i64 vy, .int .i64 hp, .int .i64 wt] 29)
  unfold Enty.val
  simp only
  have goal : decide (EFrm ⟨id, kind, x, y, vx, vy, hp, wt⟩) = (kb && (vb && (s1 && (s2 && decide (LifeOk ⟨id, kind, x, y, vx, vy, hp, wt⟩))))) := by
    rw [← H1.out, ← H2.out, ← H3.out, ← H4.out, Bool.eq_iff_iff]
    simp only [decide_eq_true_eq, Bool.and_eq_true]
    rfl
  rw [goal]
  clear goal
  have lifeq : decide (LifeOk ⟨id, kind, x, y, vx, vy, hp, wt⟩) = (decide (0 ≤ hp) && (decide (hp ≤ 100) && (decide (0 ≤ wt) && (decide (wt ≤ 20) && (if kind = 2 then (decide (hp = 100) && decide (wt = 0)) else (decide (hp = 0) != decide (wt = 0))))))) := by
    rw [Bool.eq_iff_iff]
    simp only [decide_eq_true_eq]
    unfold LifeOk
    by_cases h2 : kind = 2
    · simp [h2]
    · by_cases h3 : hp = 0 <;> by_cases h4 : wt = 0 <;> simp [h2, h3, h4]
  have HL := Lib.hid lifeq
  clear lifeq
  cases kb
  rotate_left
  cases vb
  rotate_left
  cases s1
  rotate_left
  cases s2
  rotate_left
  focus
    rw [HL.out]
    by_cases h2 : kind = 2
    all_goals
      by_cases h3 : hp = 100
      all_goals
        have t2 : (kind == 2) = decide (kind = 2) := rfl
        have t3 : (hp == 100) = decide (hp = 100) := rfl
        simp only [h2, h3, decide_true, decide_false] at t2 t3
        have K2 := Lib.hid h2
        have K3 := Lib.hid h3
        clear h2 h3
  all_goals
    go_enter Try.func14, Try.ntmps14
    have e0 := HX.out.cell 0 rfl
    have e1 := HX.out.cell 1 rfl
    have e2 := HX.out.cell 2 rfl
    have e3 := HX.out.cell 3 rfl
    have e4 := HX.out.cell 4 rfl
    have e5 := HX.out.cell 5 rfl
    have e6 := HX.out.cell 6 rfl
    have e7 := HX.out.cell 7 rfl
    go_wp2_with (first | (go_at_call 35; refine (HK.out _).mono ?_; rintro e' wn ⟨rfl, hx⟩; have HX := Lib.hid (Holds.belowed HX.out hx); clear hx; have e0 := HX.out.cell 0 rfl; have e1 := HX.out.cell 1 rfl; have e2 := HX.out.cell 2 rfl; have e3 := HX.out.cell 3 rfl; have e4 := HX.out.cell 4 rfl; have e5 := HX.out.cell 5 rfl; have e6 := HX.out.cell 6 rfl; have e7 := HX.out.cell 7 rfl;) | (go_at_call 36; refine (HV.out _).mono ?_; rintro e' wn ⟨rfl, hx⟩; have HX := Lib.hid (Holds.belowed HX.out hx); clear hx; have e0 := HX.out.cell 0 rfl; have e1 := HX.out.cell 1 rfl; have e2 := HX.out.cell 2 rfl; have e3 := HX.out.cell 3 rfl; have e4 := HX.out.cell 4 rfl; have e5 := HX.out.cell 5 rfl; have e6 := HX.out.cell 6 rfl; have e7 := HX.out.cell 7 rfl;) | (go_at_call 37; refine (HA.out _).mono ?_; rintro e' wn ⟨rfl, rfl⟩) | (go_at_call 37; refine (HB.out _).mono ?_; rintro e' wn ⟨rfl, rfl⟩))
    all_goals
      go_ret
      refine ⟨ret_b ?_, HX.out.below⟩
      first
        | rfl
        | (have k2 := K2.out
           have k3 := K3.out
           symm
           rw [Bool.eq_false_iff]
           intro hX
           simp only [Bool.and_eq_true, decide_eq_true_eq] at hX
           omega)
        | (symm
           rw [Bool.eq_false_iff]
           intro hX
           simp only [Bool.and_eq_true, decide_eq_true_eq] at hX
           omega)
        | (exfalso
           have k2 := K2.out
           have hq := ‹(kind == 2) = false›
           rw [k2] at hq
           exact absurd hq (by decide))

end Go.Proofs.Ytfcncmhcmbghpaa.Ents
