/- Entities: formed, by the program and by the reference; the parts. -/
import Derived.Test.YtfcncmhcmbghpaaProg
import Derived.Test.YtfcncmhcmbghpaaEntP
import Derived.Test.YtfcncmhcmbghpaaOpen
import Derived.Test.YtfcncmhcmbghpaaNum
set_option linter.unusedVariables false
set_option linter.unusedSimpArgs false
namespace Go.Proofs.Ytfcncmhcmbghpaa.Ents
open Go.RowKit Go.Proofs.Ytfcncmhcmbghpaa.Mem Go.Proofs.Ytfcncmhcmbghpaa.Open Go.Proofs.Ytfcncmhcmbghpaa.Num

def vecV (x y : Int) : Value := .agg #[.int .i64 x, .int .i64 y]
def Enty.val (c : Enty) : Value := .agg #[.int .i64 c.id, .int .i64 c.kind, .int .i64 c.x, .int .i64 c.y, .int .i64 c.vx, .int .i64 c.vy, .int .i64 c.hp, .int .i64 c.wt]

set_option maxHeartbeats 2000000 in
theorem vformed (w : World) (x y : Int) : Calls Try.prog 36 #[.agg #[.int .i64 x, .int .i64 y]] w fun e' w' => e' = .returned (.bool (decide (VecOk x y))) ∧ Below w.heap.size w w' := by
  go_enter Try.func36, Try.ntmps36
  go_wp2
  all_goals
    go_ret
    refine ⟨ret_b ?_, (Below.refl _ _).alloc (Nat.le_refl _) _⟩
    rw [Bool.eq_iff_iff]
    simp only [decide_eq_true_eq]
    unfold VecOk
    try simp
    try omega

set_option maxHeartbeats 2000000 in
theorem rvformed (w : World) (x y : Int) : Calls Try.prog 39 #[.agg #[.int .i64 x, .int .i64 y]] w fun e' w' => e' = .returned (.bool (decide (VecOk x y))) ∧ Below w.heap.size w w' := by
  go_enter Try.func39, Try.ntmps39
  go_wp2
  all_goals
    go_ret
    refine ⟨ret_b ?_, (Below.refl _ _).alloc (Nat.le_refl _) _⟩
    rw [Bool.eq_iff_iff]
    simp only [decide_eq_true_eq]
    unfold VecOk
    try simp
    try omega

theorem slow (w : World) (x : Int) : Calls Try.prog 37 #[.int .i64 x] w fun e' w' => e' = .returned (.bool (decide (SlowOk x))) ∧ w = w' := by
  go_enter Try.func37, Try.ntmps37
  go_wp2
  all_goals
    go_ret
    refine ⟨ret_b ?_, rfl⟩
    rw [Bool.eq_iff_iff]
    simp only [decide_eq_true_eq]
    unfold SlowOk
    try simp
    try omega

theorem between (w : World) (x a b : Int) : Calls Try.prog 38 #[.int .i64 x, .int .i64 a, .int .i64 b] w fun e' w' => e' = .returned (.bool (decide (a ≤ x ∧ x ≤ b))) ∧ w = w' := by
  go_enter Try.func38, Try.ntmps38
  go_wp2
  all_goals
    go_ret
    refine ⟨ret_b ?_, rfl⟩
    rw [Bool.eq_iff_iff]
    try simp
    try omega

set_option maxHeartbeats 4000000 in
theorem ekind (w : World) (e : Enty) : Calls Try.prog 35 #[.agg #[.int .i64 e.id, .int .i64 e.kind, .int .i64 e.x, .int .i64 e.y, .int .i64 e.vx, .int .i64 e.vy, .int .i64 e.hp, .int .i64 e.wt]] w fun e' w' => e' = .returned (.bool (decide (KindOk e))) ∧ Below w.heap.size w w' := by
  obtain ⟨id, kind, x, y, vx, vy, hp, wt⟩ := e
  simp only
  by_cases h1 : kind = 1
  all_goals
    by_cases h2 : kind = 2
    all_goals
      have t1 : (kind == 1) = decide (kind = 1) := rfl
      have t2 : (kind == 2) = decide (kind = 2) := rfl
      simp only [h1, h2, decide_true, decide_false] at t1 t2
      have H1 := Lib.hid h1
      have H2 := Lib.hid h2
      clear h1 h2
      go_enter Try.func35, Try.ntmps35
      go_wp2
      all_goals
        go_ret
        refine ⟨ret_b ?_, (Below.refl _ _).alloc (Nat.le_refl _) _⟩
        have h1 := H1.out
        have h2 := H2.out
        rw [Bool.eq_iff_iff]
        simp only [decide_eq_true_eq]
        unfold KindOk
        try simp
        try omega

end Go.Proofs.Ytfcncmhcmbghpaa.Ents
