/- Entities: formed, by the reference. -/
import Derived.Test.YtfcncmhcmbghpaaEForm
set_option linter.unusedVariables false
set_option linter.unusedSimpArgs false
namespace Go.Proofs.Ytfcncmhcmbghpaa.Ents
open Go.RowKit Go.Proofs.Ytfcncmhcmbghpaa.Mem Go.Proofs.Ytfcncmhcmbghpaa.Open Go.Proofs.Ytfcncmhcmbghpaa.Num

def rB (id kind hp wt : Int) : Bool := decide ((kind = 1 ∧ (1 ≤ id ∧ id ≤ 8) ∧ (0 < hp ∧ wt = 0 ∨ hp = 0 ∧ 0 < wt)) ∨ (kind = 2 ∧ (9 ≤ id ∧ id ≤ 16) ∧ hp = 100 ∧ wt = 0))

theorem frm_iff (id kind x y vx vy hp wt : Int) : decide (EFrm ⟨id, kind, x, y, vx, vy, hp, wt⟩) = (rB id kind hp wt && (decide (VecOk x y) && (decide (-65536 ≤ vx ∧ vx ≤ 65536) && (decide (-65536 ≤ vy ∧ vy ≤ 65536) && (decide (0 ≤ hp ∧ hp ≤ 100) && decide (0 ≤ wt ∧ wt ≤ 20)))))) := by
  rw [Bool.eq_iff_iff]
  unfold rB
  simp only [decide_eq_true_eq, Bool.and_eq_true]
  unfold EFrm KindOk SlowOk LifeOk
  simp only
  constructor
  · rintro ⟨h1, h2, h3, h4, h5, h6, h7, h8, h9, h10⟩
    refine ⟨?_, h2, h3, h4, ⟨h5, h6⟩, h7, h8⟩
    rcases h1 with h1 | h1
    · have := h10 (by omega)
      left; omega
    · have := h9 h1.1
      right; omega
  · rintro ⟨h1, h2, h3, h4, ⟨h5, h6⟩, h7, h8⟩
    refine ⟨by omega, h2, h3, h4, h5, h6, h7, h8, fun h => by omega, fun h => by omega⟩

set_option maxHeartbeats 8000000 in
theorem erformed (w : World) (e : Enty) : Calls Try.prog 15 #[e.val] w fun e' w' => e' = .returned (.bool (decide (EFrm e))) ∧ Below w.heap.size w w' := by
  obtain ⟨id, kind, x, y, vx, vy, hp, wt⟩ := e
  obtain ⟨vb, hvb⟩ : ∃ vb, decide (VecOk x y) = vb := ⟨_, rfl⟩
  obtain ⟨ba, hba⟩ : ∃ ba, decide (1 ≤ id ∧ id ≤ 8) = ba := ⟨_, rfl⟩
  have hBA : ∀ w', Calls Try.prog 38 #[.int .i64 id, .int .i64 (1), .int .i64 8] w' fun e' w'' => e' = .returned (.bool ba) ∧ w' = w'' := fun w' => by
    have := between w' id (1) 8; rw [hba] at this; exact this
  have BA := Lib.hid hBA
  have KBA := Lib.hid hba
  clear hBA hba
  obtain ⟨bb, hbb⟩ : ∃ bb, decide (9 ≤ id ∧ id ≤ 16) = bb := ⟨_, rfl⟩
  have hBB : ∀ w', Calls Try.prog 38 #[.int .i64 id, .int .i64 (9), .int .i64 16] w' fun e' w'' => e' = .returned (.bool bb) ∧ w' = w'' := fun w' => by
    have := between w' id (9) 16; rw [hbb] at this; exact this
  have BB := Lib.hid hBB
  have KBB := Lib.hid hbb
  clear hBB hbb
  obtain ⟨bc, hbc⟩ : ∃ bc, decide (-65536 ≤ vx ∧ vx ≤ 65536) = bc := ⟨_, rfl⟩
  have hBC : ∀ w', Calls Try.prog 38 #[.int .i64 vx, .int .i64 (-65536), .int .i64 65536] w' fun e' w'' => e' = .returned (.bool bc) ∧ w' = w'' := fun w' => by
    have := between w' vx (-65536) 65536; rw [hbc] at this; exact this
  have BC := Lib.hid hBC
  have KBC := Lib.hid hbc
  clear hBC hbc
  obtain ⟨bd, hbd⟩ : ∃ bd, decide (-65536 ≤ vy ∧ vy ≤ 65536) = bd := ⟨_, rfl⟩
  have hBD : ∀ w', Calls Try.prog 38 #[.int .i64 vy, .int .i64 (-65536), .int .i64 65536] w' fun e' w'' => e' = .returned (.bool bd) ∧ w' = w'' := fun w' => by
    have := between w' vy (-65536) 65536; rw [hbd] at this; exact this
  have BD := Lib.hid hBD
  have KBD := Lib.hid hbd
  clear hBD hbd
  obtain ⟨be, hbe⟩ : ∃ be, decide (0 ≤ hp ∧ hp ≤ 100) = be := ⟨_, rfl⟩
  have hBE : ∀ w', Calls Try.prog 38 #[.int .i64 hp, .int .i64 (0), .int .i64 100] w' fun e' w'' => e' = .returned (.bool be) ∧ w' = w'' := fun w' => by
    have := between w' hp (0) 100; rw [hbe] at this; exact this
  have BE := Lib.hid hBE
  have KBE := Lib.hid hbe
  clear hBE hbe
  obtain ⟨bf, hbf⟩ : ∃ bf, decide (0 ≤ wt ∧ wt ≤ 20) = bf := ⟨_, rfl⟩
  have hBF : ∀ w', Calls Try.prog 38 #[.int .i64 wt, .int .i64 (0), .int .i64 20] w' fun e' w'' => e' = .returned (.bool bf) ∧ w' = w'' := fun w' => by
    have := between w' wt (0) 20; rw [hbf] at this; exact this
  have BF := Lib.hid hBF
  have KBF := Lib.hid hbf
  clear hBF hbf
  have hv : ∀ w', Calls Try.prog 39 #[.agg #[.int .i64 x, .int .i64 y]] w' fun e' w'' => e' = .returned (.bool vb) ∧ Below w'.heap.size w' w'' := fun w' => by
    have := rvformed w' x y; rw [hvb] at this; exact this
  have HV := Lib.hid hv
  clear hv
  rw [frm_iff, hvb, KBC.out, KBD.out, KBE.out, KBF.out]
  obtain ⟨rb, hrb⟩ : ∃ rb, rB id kind hp wt = rb := ⟨_, rfl⟩
  rw [hrb]
  have HRB := Lib.hid hrb
  clear hrb hvb
  have HX := Lib.hid ((Holds.start w).alloc [.int .i64 id, .int .i64 kind, .int .i64 x, .int .i64 y, .int .i64 vx, .int .i64 vy, .int .i64 hp, .int .i64 wt] 29)
  unfold Enty.val
  simp only
  have t1 : (kind == 1) = decide (kind = 1) := rfl
  have t2 : (kind == 2) = decide (kind = 2) := rfl
  have t3 : (hp == 100) = decide (hp = 100) := rfl
  have t4 : (hp == 0) = decide (hp = 0) := rfl
  have t5 : (wt == 0) = decide (wt = 0) := rfl
  obtain ⟨q1, h1⟩ : ∃ q, decide (kind = 1) = q := ⟨_, rfl⟩
  obtain ⟨q2, h2⟩ : ∃ q, decide (kind = 2) = q := ⟨_, rfl⟩
  obtain ⟨q3, h3⟩ : ∃ q, decide (hp = 100) = q := ⟨_, rfl⟩
  obtain ⟨q4, h4⟩ : ∃ q, decide (hp = 0) = q := ⟨_, rfl⟩
  obtain ⟨q5, h5⟩ : ∃ q, decide (wt = 0) = q := ⟨_, rfl⟩
  obtain ⟨q6, t6⟩ : ∃ q, decide (0 < hp) = q := ⟨_, rfl⟩
  obtain ⟨q7, t7⟩ : ∃ q, decide (0 < wt) = q := ⟨_, rfl⟩
  rw [h1] at t1
  rw [h2] at t2
  rw [h3] at t3
  rw [h4] at t4
  rw [h5] at t5
  have hall : rb = ((q1 && (ba && (q6 && q5 || q4 && q7))) || (q2 && (bb && (q3 && q5)))) := by
    rw [← HRB.out, ← h1, ← h2, ← h3, ← h4, ← h5, ← t6, ← t7, ← KBA.out, ← KBB.out, Bool.eq_iff_iff]
    unfold rB
    simp only [decide_eq_true_eq, Bool.and_eq_true, Bool.or_eq_true]
  have hx1 : ¬ (q1 = true ∧ q2 = true) := by rw [← h1, ← h2]; simp only [decide_eq_true_eq]; omega
  have hx2 : ¬ (q6 = true ∧ q4 = true) := by rw [← t6, ← h4]; simp only [decide_eq_true_eq]; omega
  have hx3 : ¬ (q5 = true ∧ q7 = true) := by rw [← h5, ← t7]; simp only [decide_eq_true_eq]; omega
  have hx4 : ¬ (q3 = true ∧ q6 = false) := by rw [← h3, ← t6]; simp only [decide_eq_true_eq, decide_eq_false_iff_not]; omega
  clear h1 h2 h3 h4 h5 KBA KBB KBC KBD KBE KBF HRB
  cases q1 with
  | false =>
    cases q2 with
    | false =>
      obtain rfl : rb = false := by simpa using hall
      clear hall hx1 hx2 hx3 hx4
      go_enter Try.func15, Try.ntmps15
      have e0 := HX.out.cell 0 rfl
      have e1 := HX.out.cell 1 rfl
      have e2 := HX.out.cell 2 rfl
      have e3 := HX.out.cell 3 rfl
      have e4 := HX.out.cell 4 rfl
      have e5 := HX.out.cell 5 rfl
      have e6 := HX.out.cell 6 rfl
      have e7 := HX.out.cell 7 rfl
      go_wp2_with (first | (go_at_call 39; refine (HV.out _).mono ?_; rintro e' wn ⟨rfl, hx⟩; have HX := Lib.hid (Holds.belowed HX.out hx); clear hx; have e0 := HX.out.cell 0 rfl; have e1 := HX.out.cell 1 rfl; have e2 := HX.out.cell 2 rfl; have e3 := HX.out.cell 3 rfl; have e4 := HX.out.cell 4 rfl; have e5 := HX.out.cell 5 rfl; have e6 := HX.out.cell 6 rfl; have e7 := HX.out.cell 7 rfl;) | (go_at_call 38; with_reducible refine (BA.out _).mono ?_; rintro e' wn ⟨rfl, rfl⟩) | (go_at_call 38; with_reducible refine (BB.out _).mono ?_; rintro e' wn ⟨rfl, rfl⟩) | (go_at_call 38; with_reducible refine (BC.out _).mono ?_; rintro e' wn ⟨rfl, rfl⟩) | (go_at_call 38; with_reducible refine (BD.out _).mono ?_; rintro e' wn ⟨rfl, rfl⟩) | (go_at_call 38; with_reducible refine (BE.out _).mono ?_; rintro e' wn ⟨rfl, rfl⟩) | (go_at_call 38; with_reducible refine (BF.out _).mono ?_; rintro e' wn ⟨rfl, rfl⟩))
      all_goals
        go_ret
        exact ⟨ret_b (by simp), HX.out.below⟩
    | true =>
      cases bb with
      | false =>
        obtain rfl : rb = false := by simpa using hall
        clear hall hx1 hx2 hx3 hx4
        go_enter Try.func15, Try.ntmps15
        have e0 := HX.out.cell 0 rfl
        have e1 := HX.out.cell 1 rfl
        have e2 := HX.out.cell 2 rfl
        have e3 := HX.out.cell 3 rfl
        have e4 := HX.out.cell 4 rfl
        have e5 := HX.out.cell 5 rfl
        have e6 := HX.out.cell 6 rfl
        have e7 := HX.out.cell 7 rfl
        go_wp2_with (first | (go_at_call 39; refine (HV.out _).mono ?_; rintro e' wn ⟨rfl, hx⟩; have HX := Lib.hid (Holds.belowed HX.out hx); clear hx; have e0 := HX.out.cell 0 rfl; have e1 := HX.out.cell 1 rfl; have e2 := HX.out.cell 2 rfl; have e3 := HX.out.cell 3 rfl; have e4 := HX.out.cell 4 rfl; have e5 := HX.out.cell 5 rfl; have e6 := HX.out.cell 6 rfl; have e7 := HX.out.cell 7 rfl;) | (go_at_call 38; with_reducible refine (BA.out _).mono ?_; rintro e' wn ⟨rfl, rfl⟩) | (go_at_call 38; with_reducible refine (BB.out _).mono ?_; rintro e' wn ⟨rfl, rfl⟩) | (go_at_call 38; with_reducible refine (BC.out _).mono ?_; rintro e' wn ⟨rfl, rfl⟩) | (go_at_call 38; with_reducible refine (BD.out _).mono ?_; rintro e' wn ⟨rfl, rfl⟩) | (go_at_call 38; with_reducible refine (BE.out _).mono ?_; rintro e' wn ⟨rfl, rfl⟩) | (go_at_call 38; with_reducible refine (BF.out _).mono ?_; rintro e' wn ⟨rfl, rfl⟩))
        all_goals
          go_ret
          exact ⟨ret_b (by simp), HX.out.below⟩
      | true =>
        cases q3 with
        | false =>
          obtain rfl : rb = false := by simpa using hall
          clear hall hx1 hx2 hx3 hx4
          go_enter Try.func15, Try.ntmps15
          have e0 := HX.out.cell 0 rfl
          have e1 := HX.out.cell 1 rfl
          have e2 := HX.out.cell 2 rfl
          have e3 := HX.out.cell 3 rfl
          have e4 := HX.out.cell 4 rfl
          have e5 := HX.out.cell 5 rfl
          have e6 := HX.out.cell 6 rfl
          have e7 := HX.out.cell 7 rfl
          go_wp2_with (first | (go_at_call 39; refine (HV.out _).mono ?_; rintro e' wn ⟨rfl, hx⟩; have HX := Lib.hid (Holds.belowed HX.out hx); clear hx; have e0 := HX.out.cell 0 rfl; have e1 := HX.out.cell 1 rfl; have e2 := HX.out.cell 2 rfl; have e3 := HX.out.cell 3 rfl; have e4 := HX.out.cell 4 rfl; have e5 := HX.out.cell 5 rfl; have e6 := HX.out.cell 6 rfl; have e7 := HX.out.cell 7 rfl;) | (go_at_call 38; with_reducible refine (BA.out _).mono ?_; rintro e' wn ⟨rfl, rfl⟩) | (go_at_call 38; with_reducible refine (BB.out _).mono ?_; rintro e' wn ⟨rfl, rfl⟩) | (go_at_call 38; with_reducible refine (BC.out _).mono ?_; rintro e' wn ⟨rfl, rfl⟩) | (go_at_call 38; with_reducible refine (BD.out _).mono ?_; rintro e' wn ⟨rfl, rfl⟩) | (go_at_call 38; with_reducible refine (BE.out _).mono ?_; rintro e' wn ⟨rfl, rfl⟩) | (go_at_call 38; with_reducible refine (BF.out _).mono ?_; rintro e' wn ⟨rfl, rfl⟩))
          all_goals
            go_ret
            exact ⟨ret_b (by simp), HX.out.below⟩
        | true =>
          cases q5 with
          | false =>
            obtain rfl : rb = false := by simpa using hall
            clear hall hx1 hx2 hx3 hx4
            go_enter Try.func15, Try.ntmps15
            have e0 := HX.out.cell 0 rfl
            have e1 := HX.out.cell 1 rfl
            have e2 := HX.out.cell 2 rfl
            have e3 := HX.out.cell 3 rfl
            have e4 := HX.out.cell 4 rfl
            have e5 := HX.out.cell 5 rfl
            have e6 := HX.out.cell 6 rfl
            have e7 := HX.out.cell 7 rfl
            go_wp2_with (first | (go_at_call 39; refine (HV.out _).mono ?_; rintro e' wn ⟨rfl, hx⟩; have HX := Lib.hid (Holds.belowed HX.out hx); clear hx; have e0 := HX.out.cell 0 rfl; have e1 := HX.out.cell 1 rfl; have e2 := HX.out.cell 2 rfl; have e3 := HX.out.cell 3 rfl; have e4 := HX.out.cell 4 rfl; have e5 := HX.out.cell 5 rfl; have e6 := HX.out.cell 6 rfl; have e7 := HX.out.cell 7 rfl;) | (go_at_call 38; with_reducible refine (BA.out _).mono ?_; rintro e' wn ⟨rfl, rfl⟩) | (go_at_call 38; with_reducible refine (BB.out _).mono ?_; rintro e' wn ⟨rfl, rfl⟩) | (go_at_call 38; with_reducible refine (BC.out _).mono ?_; rintro e' wn ⟨rfl, rfl⟩) | (go_at_call 38; with_reducible refine (BD.out _).mono ?_; rintro e' wn ⟨rfl, rfl⟩) | (go_at_call 38; with_reducible refine (BE.out _).mono ?_; rintro e' wn ⟨rfl, rfl⟩) | (go_at_call 38; with_reducible refine (BF.out _).mono ?_; rintro e' wn ⟨rfl, rfl⟩))
            all_goals
              go_ret
              exact ⟨ret_b (by simp), HX.out.below⟩
          | true =>
            obtain rfl : rb = true := by simpa using hall
            clear hall hx1 hx2 hx3 hx4
            cases vb with
            | false =>
              go_enter Try.func15, Try.ntmps15
              have e0 := HX.out.cell 0 rfl
              have e1 := HX.out.cell 1 rfl
              have e2 := HX.out.cell 2 rfl
              have e3 := HX.out.cell 3 rfl
              have e4 := HX.out.cell 4 rfl
              have e5 := HX.out.cell 5 rfl
              have e6 := HX.out.cell 6 rfl
              have e7 := HX.out.cell 7 rfl
              go_wp2_with (first | (go_at_call 39; refine (HV.out _).mono ?_; rintro e' wn ⟨rfl, hx⟩; have HX := Lib.hid (Holds.belowed HX.out hx); clear hx; have e0 := HX.out.cell 0 rfl; have e1 := HX.out.cell 1 rfl; have e2 := HX.out.cell 2 rfl; have e3 := HX.out.cell 3 rfl; have e4 := HX.out.cell 4 rfl; have e5 := HX.out.cell 5 rfl; have e6 := HX.out.cell 6 rfl; have e7 := HX.out.cell 7 rfl;) | (go_at_call 38; with_reducible refine (BA.out _).mono ?_; rintro e' wn ⟨rfl, rfl⟩) | (go_at_call 38; with_reducible refine (BB.out _).mono ?_; rintro e' wn ⟨rfl, rfl⟩) | (go_at_call 38; with_reducible refine (BC.out _).mono ?_; rintro e' wn ⟨rfl, rfl⟩) | (go_at_call 38; with_reducible refine (BD.out _).mono ?_; rintro e' wn ⟨rfl, rfl⟩) | (go_at_call 38; with_reducible refine (BE.out _).mono ?_; rintro e' wn ⟨rfl, rfl⟩) | (go_at_call 38; with_reducible refine (BF.out _).mono ?_; rintro e' wn ⟨rfl, rfl⟩))
              all_goals
                go_ret
                exact ⟨ret_b (by simp), HX.out.below⟩
            | true =>
              cases bc with
              | false =>
                go_enter Try.func15, Try.ntmps15
                have e0 := HX.out.cell 0 rfl
                have e1 := HX.out.cell 1 rfl
                have e2 := HX.out.cell 2 rfl
                have e3 := HX.out.cell 3 rfl
                have e4 := HX.out.cell 4 rfl
                have e5 := HX.out.cell 5 rfl
                have e6 := HX.out.cell 6 rfl
                have e7 := HX.out.cell 7 rfl
                go_wp2_with (first | (go_at_call 39; refine (HV.out _).mono ?_; rintro e' wn ⟨rfl, hx⟩; have HX := Lib.hid (Holds.belowed HX.out hx); clear hx; have e0 := HX.out.cell 0 rfl; have e1 := HX.out.cell 1 rfl; have e2 := HX.out.cell 2 rfl; have e3 := HX.out.cell 3 rfl; have e4 := HX.out.cell 4 rfl; have e5 := HX.out.cell 5 rfl; have e6 := HX.out.cell 6 rfl; have e7 := HX.out.cell 7 rfl;) | (go_at_call 38; with_reducible refine (BA.out _).mono ?_; rintro e' wn ⟨rfl, rfl⟩) | (go_at_call 38; with_reducible refine (BB.out _).mono ?_; rintro e' wn ⟨rfl, rfl⟩) | (go_at_call 38; with_reducible refine (BC.out _).mono ?_; rintro e' wn ⟨rfl, rfl⟩) | (go_at_call 38; with_reducible refine (BD.out _).mono ?_; rintro e' wn ⟨rfl, rfl⟩) | (go_at_call 38; with_reducible refine (BE.out _).mono ?_; rintro e' wn ⟨rfl, rfl⟩) | (go_at_call 38; with_reducible refine (BF.out _).mono ?_; rintro e' wn ⟨rfl, rfl⟩))
                all_goals
                  go_ret
                  exact ⟨ret_b (by simp), HX.out.below⟩
              | true =>
                cases bd with
                | false =>
                  go_enter Try.func15, Try.ntmps15
                  have e0 := HX.out.cell 0 rfl
                  have e1 := HX.out.cell 1 rfl
                  have e2 := HX.out.cell 2 rfl
                  have e3 := HX.out.cell 3 rfl
                  have e4 := HX.out.cell 4 rfl
                  have e5 := HX.out.cell 5 rfl
                  have e6 := HX.out.cell 6 rfl
                  have e7 := HX.out.cell 7 rfl
                  go_wp2_with (first | (go_at_call 39; refine (HV.out _).mono ?_; rintro e' wn ⟨rfl, hx⟩; have HX := Lib.hid (Holds.belowed HX.out hx); clear hx; have e0 := HX.out.cell 0 rfl; have e1 := HX.out.cell 1 rfl; have e2 := HX.out.cell 2 rfl; have e3 := HX.out.cell 3 rfl; have e4 := HX.out.cell 4 rfl; have e5 := HX.out.cell 5 rfl; have e6 := HX.out.cell 6 rfl; have e7 := HX.out.cell 7 rfl;) | (go_at_call 38; with_reducible refine (BA.out _).mono ?_; rintro e' wn ⟨rfl, rfl⟩) | (go_at_call 38; with_reducible refine (BB.out _).mono ?_; rintro e' wn ⟨rfl, rfl⟩) | (go_at_call 38; with_reducible refine (BC.out _).mono ?_; rintro e' wn ⟨rfl, rfl⟩) | (go_at_call 38; with_reducible refine (BD.out _).mono ?_; rintro e' wn ⟨rfl, rfl⟩) | (go_at_call 38; with_reducible refine (BE.out _).mono ?_; rintro e' wn ⟨rfl, rfl⟩) | (go_at_call 38; with_reducible refine (BF.out _).mono ?_; rintro e' wn ⟨rfl, rfl⟩))
                  all_goals
                    go_ret
                    exact ⟨ret_b (by simp), HX.out.below⟩
                | true =>
                  cases be with
                  | false =>
                    go_enter Try.func15, Try.ntmps15
                    have e0 := HX.out.cell 0 rfl
                    have e1 := HX.out.cell 1 rfl
                    have e2 := HX.out.cell 2 rfl
                    have e3 := HX.out.cell 3 rfl
                    have e4 := HX.out.cell 4 rfl
                    have e5 := HX.out.cell 5 rfl
                    have e6 := HX.out.cell 6 rfl
                    have e7 := HX.out.cell 7 rfl
                    go_wp2_with (first | (go_at_call 39; refine (HV.out _).mono ?_; rintro e' wn ⟨rfl, hx⟩; have HX := Lib.hid (Holds.belowed HX.out hx); clear hx; have e0 := HX.out.cell 0 rfl; have e1 := HX.out.cell 1 rfl; have e2 := HX.out.cell 2 rfl; have e3 := HX.out.cell 3 rfl; have e4 := HX.out.cell 4 rfl; have e5 := HX.out.cell 5 rfl; have e6 := HX.out.cell 6 rfl; have e7 := HX.out.cell 7 rfl;) | (go_at_call 38; with_reducible refine (BA.out _).mono ?_; rintro e' wn ⟨rfl, rfl⟩) | (go_at_call 38; with_reducible refine (BB.out _).mono ?_; rintro e' wn ⟨rfl, rfl⟩) | (go_at_call 38; with_reducible refine (BC.out _).mono ?_; rintro e' wn ⟨rfl, rfl⟩) | (go_at_call 38; with_reducible refine (BD.out _).mono ?_; rintro e' wn ⟨rfl, rfl⟩) | (go_at_call 38; with_reducible refine (BE.out _).mono ?_; rintro e' wn ⟨rfl, rfl⟩) | (go_at_call 38; with_reducible refine (BF.out _).mono ?_; rintro e' wn ⟨rfl, rfl⟩))
                    all_goals
                      go_ret
                      exact ⟨ret_b (by simp), HX.out.below⟩
                  | true =>
                    go_enter Try.func15, Try.ntmps15
                    have e0 := HX.out.cell 0 rfl
                    have e1 := HX.out.cell 1 rfl
                    have e2 := HX.out.cell 2 rfl
                    have e3 := HX.out.cell 3 rfl
                    have e4 := HX.out.cell 4 rfl
                    have e5 := HX.out.cell 5 rfl
                    have e6 := HX.out.cell 6 rfl
                    have e7 := HX.out.cell 7 rfl
                    go_wp2_with (first | (go_at_call 39; refine (HV.out _).mono ?_; rintro e' wn ⟨rfl, hx⟩; have HX := Lib.hid (Holds.belowed HX.out hx); clear hx; have e0 := HX.out.cell 0 rfl; have e1 := HX.out.cell 1 rfl; have e2 := HX.out.cell 2 rfl; have e3 := HX.out.cell 3 rfl; have e4 := HX.out.cell 4 rfl; have e5 := HX.out.cell 5 rfl; have e6 := HX.out.cell 6 rfl; have e7 := HX.out.cell 7 rfl;) | (go_at_call 38; with_reducible refine (BA.out _).mono ?_; rintro e' wn ⟨rfl, rfl⟩) | (go_at_call 38; with_reducible refine (BB.out _).mono ?_; rintro e' wn ⟨rfl, rfl⟩) | (go_at_call 38; with_reducible refine (BC.out _).mono ?_; rintro e' wn ⟨rfl, rfl⟩) | (go_at_call 38; with_reducible refine (BD.out _).mono ?_; rintro e' wn ⟨rfl, rfl⟩) | (go_at_call 38; with_reducible refine (BE.out _).mono ?_; rintro e' wn ⟨rfl, rfl⟩) | (go_at_call 38; with_reducible refine (BF.out _).mono ?_; rintro e' wn ⟨rfl, rfl⟩))
                    all_goals
                      go_ret
                      exact ⟨ret_b (by simp), HX.out.below⟩
  | true =>
    obtain rfl : q2 = false := by simpa using hx1
    cases ba with
    | false =>
      obtain rfl : rb = false := by simpa using hall
      clear hall hx1 hx2 hx3 hx4
      go_enter Try.func15, Try.ntmps15
      have e0 := HX.out.cell 0 rfl
      have e1 := HX.out.cell 1 rfl
      have e2 := HX.out.cell 2 rfl
      have e3 := HX.out.cell 3 rfl
      have e4 := HX.out.cell 4 rfl
      have e5 := HX.out.cell 5 rfl
      have e6 := HX.out.cell 6 rfl
      have e7 := HX.out.cell 7 rfl
      go_wp2_with (first | (go_at_call 39; refine (HV.out _).mono ?_; rintro e' wn ⟨rfl, hx⟩; have HX := Lib.hid (Holds.belowed HX.out hx); clear hx; have e0 := HX.out.cell 0 rfl; have e1 := HX.out.cell 1 rfl; have e2 := HX.out.cell 2 rfl; have e3 := HX.out.cell 3 rfl; have e4 := HX.out.cell 4 rfl; have e5 := HX.out.cell 5 rfl; have e6 := HX.out.cell 6 rfl; have e7 := HX.out.cell 7 rfl;) | (go_at_call 38; with_reducible refine (BA.out _).mono ?_; rintro e' wn ⟨rfl, rfl⟩) | (go_at_call 38; with_reducible refine (BB.out _).mono ?_; rintro e' wn ⟨rfl, rfl⟩) | (go_at_call 38; with_reducible refine (BC.out _).mono ?_; rintro e' wn ⟨rfl, rfl⟩) | (go_at_call 38; with_reducible refine (BD.out _).mono ?_; rintro e' wn ⟨rfl, rfl⟩) | (go_at_call 38; with_reducible refine (BE.out _).mono ?_; rintro e' wn ⟨rfl, rfl⟩) | (go_at_call 38; with_reducible refine (BF.out _).mono ?_; rintro e' wn ⟨rfl, rfl⟩))
      all_goals
        go_ret
        exact ⟨ret_b (by simp), HX.out.below⟩
    | true =>
      cases q6 with
      | false =>
        cases q4 with
        | false =>
          obtain rfl : rb = false := by simpa using hall
          clear hall hx1 hx2 hx3 hx4
          go_enter Try.func15, Try.ntmps15
          have e0 := HX.out.cell 0 rfl
          have e1 := HX.out.cell 1 rfl
          have e2 := HX.out.cell 2 rfl
          have e3 := HX.out.cell 3 rfl
          have e4 := HX.out.cell 4 rfl
          have e5 := HX.out.cell 5 rfl
          have e6 := HX.out.cell 6 rfl
          have e7 := HX.out.cell 7 rfl
          go_wp2_with (first | (go_at_call 39; refine (HV.out _).mono ?_; rintro e' wn ⟨rfl, hx⟩; have HX := Lib.hid (Holds.belowed HX.out hx); clear hx; have e0 := HX.out.cell 0 rfl; have e1 := HX.out.cell 1 rfl; have e2 := HX.out.cell 2 rfl; have e3 := HX.out.cell 3 rfl; have e4 := HX.out.cell 4 rfl; have e5 := HX.out.cell 5 rfl; have e6 := HX.out.cell 6 rfl; have e7 := HX.out.cell 7 rfl;) | (go_at_call 38; with_reducible refine (BA.out _).mono ?_; rintro e' wn ⟨rfl, rfl⟩) | (go_at_call 38; with_reducible refine (BB.out _).mono ?_; rintro e' wn ⟨rfl, rfl⟩) | (go_at_call 38; with_reducible refine (BC.out _).mono ?_; rintro e' wn ⟨rfl, rfl⟩) | (go_at_call 38; with_reducible refine (BD.out _).mono ?_; rintro e' wn ⟨rfl, rfl⟩) | (go_at_call 38; with_reducible refine (BE.out _).mono ?_; rintro e' wn ⟨rfl, rfl⟩) | (go_at_call 38; with_reducible refine (BF.out _).mono ?_; rintro e' wn ⟨rfl, rfl⟩))
          all_goals
            go_ret
            exact ⟨ret_b (by simp), HX.out.below⟩
        | true =>
          cases q7 with
          | false =>
            obtain rfl : rb = false := by simpa using hall
            clear hall hx1 hx2 hx3 hx4
            go_enter Try.func15, Try.ntmps15
            have e0 := HX.out.cell 0 rfl
            have e1 := HX.out.cell 1 rfl
            have e2 := HX.out.cell 2 rfl
            have e3 := HX.out.cell 3 rfl
            have e4 := HX.out.cell 4 rfl
            have e5 := HX.out.cell 5 rfl
            have e6 := HX.out.cell 6 rfl
            have e7 := HX.out.cell 7 rfl
            go_wp2_with (first | (go_at_call 39; refine (HV.out _).mono ?_; rintro e' wn ⟨rfl, hx⟩; have HX := Lib.hid (Holds.belowed HX.out hx); clear hx; have e0 := HX.out.cell 0 rfl; have e1 := HX.out.cell 1 rfl; have e2 := HX.out.cell 2 rfl; have e3 := HX.out.cell 3 rfl; have e4 := HX.out.cell 4 rfl; have e5 := HX.out.cell 5 rfl; have e6 := HX.out.cell 6 rfl; have e7 := HX.out.cell 7 rfl;) | (go_at_call 38; with_reducible refine (BA.out _).mono ?_; rintro e' wn ⟨rfl, rfl⟩) | (go_at_call 38; with_reducible refine (BB.out _).mono ?_; rintro e' wn ⟨rfl, rfl⟩) | (go_at_call 38; with_reducible refine (BC.out _).mono ?_; rintro e' wn ⟨rfl, rfl⟩) | (go_at_call 38; with_reducible refine (BD.out _).mono ?_; rintro e' wn ⟨rfl, rfl⟩) | (go_at_call 38; with_reducible refine (BE.out _).mono ?_; rintro e' wn ⟨rfl, rfl⟩) | (go_at_call 38; with_reducible refine (BF.out _).mono ?_; rintro e' wn ⟨rfl, rfl⟩))
            all_goals
              go_ret
              exact ⟨ret_b (by simp), HX.out.below⟩
          | true =>
            obtain rfl : q5 = false := by simpa using hx3
            obtain rfl : rb = true := by simpa using hall
            clear hall hx1 hx2 hx3 hx4
            cases vb with
            | false =>
              go_enter Try.func15, Try.ntmps15
              have e0 := HX.out.cell 0 rfl
              have e1 := HX.out.cell 1 rfl
              have e2 := HX.out.cell 2 rfl
              have e3 := HX.out.cell 3 rfl
              have e4 := HX.out.cell 4 rfl
              have e5 := HX.out.cell 5 rfl
              have e6 := HX.out.cell 6 rfl
              have e7 := HX.out.cell 7 rfl
              go_wp2_with (first | (go_at_call 39; refine (HV.out _).mono ?_; rintro e' wn ⟨rfl, hx⟩; have HX := Lib.hid (Holds.belowed HX.out hx); clear hx; have e0 := HX.out.cell 0 rfl; have e1 := HX.out.cell 1 rfl; have e2 := HX.out.cell 2 rfl; have e3 := HX.out.cell 3 rfl; have e4 := HX.out.cell 4 rfl; have e5 := HX.out.cell 5 rfl; have e6 := HX.out.cell 6 rfl; have e7 := HX.out.cell 7 rfl;) | (go_at_call 38; with_reducible refine (BA.out _).mono ?_; rintro e' wn ⟨rfl, rfl⟩) | (go_at_call 38; with_reducible refine (BB.out _).mono ?_; rintro e' wn ⟨rfl, rfl⟩) | (go_at_call 38; with_reducible refine (BC.out _).mono ?_; rintro e' wn ⟨rfl, rfl⟩) | (go_at_call 38; with_reducible refine (BD.out _).mono ?_; rintro e' wn ⟨rfl, rfl⟩) | (go_at_call 38; with_reducible refine (BE.out _).mono ?_; rintro e' wn ⟨rfl, rfl⟩) | (go_at_call 38; with_reducible refine (BF.out _).mono ?_; rintro e' wn ⟨rfl, rfl⟩))
              all_goals
                go_ret
                exact ⟨ret_b (by simp), HX.out.below⟩
            | true =>
              cases bc with
              | false =>
                go_enter Try.func15, Try.ntmps15
                have e0 := HX.out.cell 0 rfl
                have e1 := HX.out.cell 1 rfl
                have e2 := HX.out.cell 2 rfl
                have e3 := HX.out.cell 3 rfl
                have e4 := HX.out.cell 4 rfl
                have e5 := HX.out.cell 5 rfl
                have e6 := HX.out.cell 6 rfl
                have e7 := HX.out.cell 7 rfl
                go_wp2_with (first | (go_at_call 39; refine (HV.out _).mono ?_; rintro e' wn ⟨rfl, hx⟩; have HX := Lib.hid (Holds.belowed HX.out hx); clear hx; have e0 := HX.out.cell 0 rfl; have e1 := HX.out.cell 1 rfl; have e2 := HX.out.cell 2 rfl; have e3 := HX.out.cell 3 rfl; have e4 := HX.out.cell 4 rfl; have e5 := HX.out.cell 5 rfl; have e6 := HX.out.cell 6 rfl; have e7 := HX.out.cell 7 rfl;) | (go_at_call 38; with_reducible refine (BA.out _).mono ?_; rintro e' wn ⟨rfl, rfl⟩) | (go_at_call 38; with_reducible refine (BB.out _).mono ?_; rintro e' wn ⟨rfl, rfl⟩) | (go_at_call 38; with_reducible refine (BC.out _).mono ?_; rintro e' wn ⟨rfl, rfl⟩) | (go_at_call 38; with_reducible refine (BD.out _).mono ?_; rintro e' wn ⟨rfl, rfl⟩) | (go_at_call 38; with_reducible refine (BE.out _).mono ?_; rintro e' wn ⟨rfl, rfl⟩) | (go_at_call 38; with_reducible refine (BF.out _).mono ?_; rintro e' wn ⟨rfl, rfl⟩))
                all_goals
                  go_ret
                  exact ⟨ret_b (by simp), HX.out.below⟩
              | true =>
                cases bd with
                | false =>
                  go_enter Try.func15, Try.ntmps15
                  have e0 := HX.out.cell 0 rfl
                  have e1 := HX.out.cell 1 rfl
                  have e2 := HX.out.cell 2 rfl
                  have e3 := HX.out.cell 3 rfl
                  have e4 := HX.out.cell 4 rfl
                  have e5 := HX.out.cell 5 rfl
                  have e6 := HX.out.cell 6 rfl
                  have e7 := HX.out.cell 7 rfl
                  go_wp2_with (first | (go_at_call 39; refine (HV.out _).mono ?_; rintro e' wn ⟨rfl, hx⟩; have HX := Lib.hid (Holds.belowed HX.out hx); clear hx; have e0 := HX.out.cell 0 rfl; have e1 := HX.out.cell 1 rfl; have e2 := HX.out.cell 2 rfl; have e3 := HX.out.cell 3 rfl; have e4 := HX.out.cell 4 rfl; have e5 := HX.out.cell 5 rfl; have e6 := HX.out.cell 6 rfl; have e7 := HX.out.cell 7 rfl;) | (go_at_call 38; with_reducible refine (BA.out _).mono ?_; rintro e' wn ⟨rfl, rfl⟩) | (go_at_call 38; with_reducible refine (BB.out _).mono ?_; rintro e' wn ⟨rfl, rfl⟩) | (go_at_call 38; with_reducible refine (BC.out _).mono ?_; rintro e' wn ⟨rfl, rfl⟩) | (go_at_call 38; with_reducible refine (BD.out _).mono ?_; rintro e' wn ⟨rfl, rfl⟩) | (go_at_call 38; with_reducible refine (BE.out _).mono ?_; rintro e' wn ⟨rfl, rfl⟩) | (go_at_call 38; with_reducible refine (BF.out _).mono ?_; rintro e' wn ⟨rfl, rfl⟩))
                  all_goals
                    go_ret
                    exact ⟨ret_b (by simp), HX.out.below⟩
                | true =>
                  cases be with
                  | false =>
                    go_enter Try.func15, Try.ntmps15
                    have e0 := HX.out.cell 0 rfl
                    have e1 := HX.out.cell 1 rfl
                    have e2 := HX.out.cell 2 rfl
                    have e3 := HX.out.cell 3 rfl
                    have e4 := HX.out.cell 4 rfl
                    have e5 := HX.out.cell 5 rfl
                    have e6 := HX.out.cell 6 rfl
                    have e7 := HX.out.cell 7 rfl
                    go_wp2_with (first | (go_at_call 39; refine (HV.out _).mono ?_; rintro e' wn ⟨rfl, hx⟩; have HX := Lib.hid (Holds.belowed HX.out hx); clear hx; have e0 := HX.out.cell 0 rfl; have e1 := HX.out.cell 1 rfl; have e2 := HX.out.cell 2 rfl; have e3 := HX.out.cell 3 rfl; have e4 := HX.out.cell 4 rfl; have e5 := HX.out.cell 5 rfl; have e6 := HX.out.cell 6 rfl; have e7 := HX.out.cell 7 rfl;) | (go_at_call 38; with_reducible refine (BA.out _).mono ?_; rintro e' wn ⟨rfl, rfl⟩) | (go_at_call 38; with_reducible refine (BB.out _).mono ?_; rintro e' wn ⟨rfl, rfl⟩) | (go_at_call 38; with_reducible refine (BC.out _).mono ?_; rintro e' wn ⟨rfl, rfl⟩) | (go_at_call 38; with_reducible refine (BD.out _).mono ?_; rintro e' wn ⟨rfl, rfl⟩) | (go_at_call 38; with_reducible refine (BE.out _).mono ?_; rintro e' wn ⟨rfl, rfl⟩) | (go_at_call 38; with_reducible refine (BF.out _).mono ?_; rintro e' wn ⟨rfl, rfl⟩))
                    all_goals
                      go_ret
                      exact ⟨ret_b (by simp), HX.out.below⟩
                  | true =>
                    go_enter Try.func15, Try.ntmps15
                    have e0 := HX.out.cell 0 rfl
                    have e1 := HX.out.cell 1 rfl
                    have e2 := HX.out.cell 2 rfl
                    have e3 := HX.out.cell 3 rfl
                    have e4 := HX.out.cell 4 rfl
                    have e5 := HX.out.cell 5 rfl
                    have e6 := HX.out.cell 6 rfl
                    have e7 := HX.out.cell 7 rfl
                    go_wp2_with (first | (go_at_call 39; refine (HV.out _).mono ?_; rintro e' wn ⟨rfl, hx⟩; have HX := Lib.hid (Holds.belowed HX.out hx); clear hx; have e0 := HX.out.cell 0 rfl; have e1 := HX.out.cell 1 rfl; have e2 := HX.out.cell 2 rfl; have e3 := HX.out.cell 3 rfl; have e4 := HX.out.cell 4 rfl; have e5 := HX.out.cell 5 rfl; have e6 := HX.out.cell 6 rfl; have e7 := HX.out.cell 7 rfl;) | (go_at_call 38; with_reducible refine (BA.out _).mono ?_; rintro e' wn ⟨rfl, rfl⟩) | (go_at_call 38; with_reducible refine (BB.out _).mono ?_; rintro e' wn ⟨rfl, rfl⟩) | (go_at_call 38; with_reducible refine (BC.out _).mono ?_; rintro e' wn ⟨rfl, rfl⟩) | (go_at_call 38; with_reducible refine (BD.out _).mono ?_; rintro e' wn ⟨rfl, rfl⟩) | (go_at_call 38; with_reducible refine (BE.out _).mono ?_; rintro e' wn ⟨rfl, rfl⟩) | (go_at_call 38; with_reducible refine (BF.out _).mono ?_; rintro e' wn ⟨rfl, rfl⟩))
                    all_goals
                      go_ret
                      exact ⟨ret_b (by simp), HX.out.below⟩
      | true =>
        obtain rfl : q4 = false := by simpa using hx2
        cases q5 with
        | false =>
          obtain rfl : rb = false := by simpa using hall
          clear hall hx1 hx2 hx3 hx4
          go_enter Try.func15, Try.ntmps15
          have e0 := HX.out.cell 0 rfl
          have e1 := HX.out.cell 1 rfl
          have e2 := HX.out.cell 2 rfl
          have e3 := HX.out.cell 3 rfl
          have e4 := HX.out.cell 4 rfl
          have e5 := HX.out.cell 5 rfl
          have e6 := HX.out.cell 6 rfl
          have e7 := HX.out.cell 7 rfl
          go_wp2_with (first | (go_at_call 39; refine (HV.out _).mono ?_; rintro e' wn ⟨rfl, hx⟩; have HX := Lib.hid (Holds.belowed HX.out hx); clear hx; have e0 := HX.out.cell 0 rfl; have e1 := HX.out.cell 1 rfl; have e2 := HX.out.cell 2 rfl; have e3 := HX.out.cell 3 rfl; have e4 := HX.out.cell 4 rfl; have e5 := HX.out.cell 5 rfl; have e6 := HX.out.cell 6 rfl; have e7 := HX.out.cell 7 rfl;) | (go_at_call 38; with_reducible refine (BA.out _).mono ?_; rintro e' wn ⟨rfl, rfl⟩) | (go_at_call 38; with_reducible refine (BB.out _).mono ?_; rintro e' wn ⟨rfl, rfl⟩) | (go_at_call 38; with_reducible refine (BC.out _).mono ?_; rintro e' wn ⟨rfl, rfl⟩) | (go_at_call 38; with_reducible refine (BD.out _).mono ?_; rintro e' wn ⟨rfl, rfl⟩) | (go_at_call 38; with_reducible refine (BE.out _).mono ?_; rintro e' wn ⟨rfl, rfl⟩) | (go_at_call 38; with_reducible refine (BF.out _).mono ?_; rintro e' wn ⟨rfl, rfl⟩))
          all_goals
            go_ret
            exact ⟨ret_b (by simp), HX.out.below⟩
        | true =>
          obtain rfl : q7 = false := by simpa using hx3
          obtain rfl : rb = true := by simpa using hall
          clear hall hx1 hx2 hx3 hx4
          cases vb with
          | false =>
            go_enter Try.func15, Try.ntmps15
            have e0 := HX.out.cell 0 rfl
            have e1 := HX.out.cell 1 rfl
            have e2 := HX.out.cell 2 rfl
            have e3 := HX.out.cell 3 rfl
            have e4 := HX.out.cell 4 rfl
            have e5 := HX.out.cell 5 rfl
            have e6 := HX.out.cell 6 rfl
            have e7 := HX.out.cell 7 rfl
            go_wp2_with (first | (go_at_call 39; refine (HV.out _).mono ?_; rintro e' wn ⟨rfl, hx⟩; have HX := Lib.hid (Holds.belowed HX.out hx); clear hx; have e0 := HX.out.cell 0 rfl; have e1 := HX.out.cell 1 rfl; have e2 := HX.out.cell 2 rfl; have e3 := HX.out.cell 3 rfl; have e4 := HX.out.cell 4 rfl; have e5 := HX.out.cell 5 rfl; have e6 := HX.out.cell 6 rfl; have e7 := HX.out.cell 7 rfl;) | (go_at_call 38; with_reducible refine (BA.out _).mono ?_; rintro e' wn ⟨rfl, rfl⟩) | (go_at_call 38; with_reducible refine (BB.out _).mono ?_; rintro e' wn ⟨rfl, rfl⟩) | (go_at_call 38; with_reducible refine (BC.out _).mono ?_; rintro e' wn ⟨rfl, rfl⟩) | (go_at_call 38; with_reducible refine (BD.out _).mono ?_; rintro e' wn ⟨rfl, rfl⟩) | (go_at_call 38; with_reducible refine (BE.out _).mono ?_; rintro e' wn ⟨rfl, rfl⟩) | (go_at_call 38; with_reducible refine (BF.out _).mono ?_; rintro e' wn ⟨rfl, rfl⟩))
            all_goals
              go_ret
              exact ⟨ret_b (by simp), HX.out.below⟩
          | true =>
            cases bc with
            | false =>
              go_enter Try.func15, Try.ntmps15
              have e0 := HX.out.cell 0 rfl
              have e1 := HX.out.cell 1 rfl
              have e2 := HX.out.cell 2 rfl
              have e3 := HX.out.cell 3 rfl
              have e4 := HX.out.cell 4 rfl
              have e5 := HX.out.cell 5 rfl
              have e6 := HX.out.cell 6 rfl
              have e7 := HX.out.cell 7 rfl
              go_wp2_with (first | (go_at_call 39; refine (HV.out _).mono ?_; rintro e' wn ⟨rfl, hx⟩; have HX := Lib.hid (Holds.belowed HX.out hx); clear hx; have e0 := HX.out.cell 0 rfl; have e1 := HX.out.cell 1 rfl; have e2 := HX.out.cell 2 rfl; have e3 := HX.out.cell 3 rfl; have e4 := HX.out.cell 4 rfl; have e5 := HX.out.cell 5 rfl; have e6 := HX.out.cell 6 rfl; have e7 := HX.out.cell 7 rfl;) | (go_at_call 38; with_reducible refine (BA.out _).mono ?_; rintro e' wn ⟨rfl, rfl⟩) | (go_at_call 38; with_reducible refine (BB.out _).mono ?_; rintro e' wn ⟨rfl, rfl⟩) | (go_at_call 38; with_reducible refine (BC.out _).mono ?_; rintro e' wn ⟨rfl, rfl⟩) | (go_at_call 38; with_reducible refine (BD.out _).mono ?_; rintro e' wn ⟨rfl, rfl⟩) | (go_at_call 38; with_reducible refine (BE.out _).mono ?_; rintro e' wn ⟨rfl, rfl⟩) | (go_at_call 38; with_reducible refine (BF.out _).mono ?_; rintro e' wn ⟨rfl, rfl⟩))
              all_goals
                go_ret
                exact ⟨ret_b (by simp), HX.out.below⟩
            | true =>
              cases bd with
              | false =>
                go_enter Try.func15, Try.ntmps15
                have e0 := HX.out.cell 0 rfl
                have e1 := HX.out.cell 1 rfl
                have e2 := HX.out.cell 2 rfl
                have e3 := HX.out.cell 3 rfl
                have e4 := HX.out.cell 4 rfl
                have e5 := HX.out.cell 5 rfl
                have e6 := HX.out.cell 6 rfl
                have e7 := HX.out.cell 7 rfl
                go_wp2_with (first | (go_at_call 39; refine (HV.out _).mono ?_; rintro e' wn ⟨rfl, hx⟩; have HX := Lib.hid (Holds.belowed HX.out hx); clear hx; have e0 := HX.out.cell 0 rfl; have e1 := HX.out.cell 1 rfl; have e2 := HX.out.cell 2 rfl; have e3 := HX.out.cell 3 rfl; have e4 := HX.out.cell 4 rfl; have e5 := HX.out.cell 5 rfl; have e6 := HX.out.cell 6 rfl; have e7 := HX.out.cell 7 rfl;) | (go_at_call 38; with_reducible refine (BA.out _).mono ?_; rintro e' wn ⟨rfl, rfl⟩) | (go_at_call 38; with_reducible refine (BB.out _).mono ?_; rintro e' wn ⟨rfl, rfl⟩) | (go_at_call 38; with_reducible refine (BC.out _).mono ?_; rintro e' wn ⟨rfl, rfl⟩) | (go_at_call 38; with_reducible refine (BD.out _).mono ?_; rintro e' wn ⟨rfl, rfl⟩) | (go_at_call 38; with_reducible refine (BE.out _).mono ?_; rintro e' wn ⟨rfl, rfl⟩) | (go_at_call 38; with_reducible refine (BF.out _).mono ?_; rintro e' wn ⟨rfl, rfl⟩))
                all_goals
                  go_ret
                  exact ⟨ret_b (by simp), HX.out.below⟩
              | true =>
                cases be with
                | false =>
                  go_enter Try.func15, Try.ntmps15
                  have e0 := HX.out.cell 0 rfl
                  have e1 := HX.out.cell 1 rfl
                  have e2 := HX.out.cell 2 rfl
                  have e3 := HX.out.cell 3 rfl
                  have e4 := HX.out.cell 4 rfl
                  have e5 := HX.out.cell 5 rfl
                  have e6 := HX.out.cell 6 rfl
                  have e7 := HX.out.cell 7 rfl
                  go_wp2_with (first | (go_at_call 39; refine (HV.out _).mono ?_; rintro e' wn ⟨rfl, hx⟩; have HX := Lib.hid (Holds.belowed HX.out hx); clear hx; have e0 := HX.out.cell 0 rfl; have e1 := HX.out.cell 1 rfl; have e2 := HX.out.cell 2 rfl; have e3 := HX.out.cell 3 rfl; have e4 := HX.out.cell 4 rfl; have e5 := HX.out.cell 5 rfl; have e6 := HX.out.cell 6 rfl; have e7 := HX.out.cell 7 rfl;) | (go_at_call 38; with_reducible refine (BA.out _).mono ?_; rintro e' wn ⟨rfl, rfl⟩) | (go_at_call 38; with_reducible refine (BB.out _).mono ?_; rintro e' wn ⟨rfl, rfl⟩) | (go_at_call 38; with_reducible refine (BC.out _).mono ?_; rintro e' wn ⟨rfl, rfl⟩) | (go_at_call 38; with_reducible refine (BD.out _).mono ?_; rintro e' wn ⟨rfl, rfl⟩) | (go_at_call 38; with_reducible refine (BE.out _).mono ?_; rintro e' wn ⟨rfl, rfl⟩) | (go_at_call 38; with_reducible refine (BF.out _).mono ?_; rintro e' wn ⟨rfl, rfl⟩))
                  all_goals
                    go_ret
                    exact ⟨ret_b (by simp), HX.out.below⟩
                | true =>
                  go_enter Try.func15, Try.ntmps15
                  have e0 := HX.out.cell 0 rfl
                  have e1 := HX.out.cell 1 rfl
                  have e2 := HX.out.cell 2 rfl
                  have e3 := HX.out.cell 3 rfl
                  have e4 := HX.out.cell 4 rfl
                  have e5 := HX.out.cell 5 rfl
                  have e6 := HX.out.cell 6 rfl
                  have e7 := HX.out.cell 7 rfl
                  go_wp2_with (first | (go_at_call 39; refine (HV.out _).mono ?_; rintro e' wn ⟨rfl, hx⟩; have HX := Lib.hid (Holds.belowed HX.out hx); clear hx; have e0 := HX.out.cell 0 rfl; have e1 := HX.out.cell 1 rfl; have e2 := HX.out.cell 2 rfl; have e3 := HX.out.cell 3 rfl; have e4 := HX.out.cell 4 rfl; have e5 := HX.out.cell 5 rfl; have e6 := HX.out.cell 6 rfl; have e7 := HX.out.cell 7 rfl;) | (go_at_call 38; with_reducible refine (BA.out _).mono ?_; rintro e' wn ⟨rfl, rfl⟩) | (go_at_call 38; with_reducible refine (BB.out _).mono ?_; rintro e' wn ⟨rfl, rfl⟩) | (go_at_call 38; with_reducible refine (BC.out _).mono ?_; rintro e' wn ⟨rfl, rfl⟩) | (go_at_call 38; with_reducible refine (BD.out _).mono ?_; rintro e' wn ⟨rfl, rfl⟩) | (go_at_call 38; with_reducible refine (BE.out _).mono ?_; rintro e' wn ⟨rfl, rfl⟩) | (go_at_call 38; with_reducible refine (BF.out _).mono ?_; rintro e' wn ⟨rfl, rfl⟩))
                  all_goals
                    go_ret
                    exact ⟨ret_b (by simp), HX.out.below⟩

end Go.Proofs.Ytfcncmhcmbghpaa.Ents
