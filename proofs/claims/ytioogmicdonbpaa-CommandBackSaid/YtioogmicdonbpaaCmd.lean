/- Commands: formed, and rows of them, by the program and by the reference. -/
import Derived.Test.YtioogmicdonbpaaProg
import Derived.Test.YtioogmicdonbpaaCmdP
import Derived.Test.YtioogmicdonbpaaOpen
import Derived.Test.YtioogmicdonbpaaNum
set_option linter.unusedVariables false
set_option linter.unusedSimpArgs false
namespace Go.Proofs.Ytioogmicdonbpaa.Cmds
open Go.RowKit Go.Proofs.Ytioogmicdonbpaa.Mem Go.Proofs.Ytioogmicdonbpaa.Open Go.Proofs.Ytioogmicdonbpaa.Num

def Cmd.val (c : Cmd) : Value := .agg #[.int .u32 c.num, .int .i8 c.mx, .int .i8 c.my, .bool c.fire, .int .u32 c.view, .int .u8 c.frac]

set_option maxHeartbeats 2000000 in
theorem formed (w : World) (c : Cmd) (hc : c.wf) : Calls Try.prog 17 #[c.val] w fun e' w' => e' = .returned (.bool (decide (Frm c))) ∧ Below w.heap.size w w' := by
  obtain ⟨num, mx, my, fire, view, frac⟩ := c
  unfold Cmd.wf at hc
  obtain ⟨⟨n0, n1⟩, ⟨x0, x1⟩, ⟨y0, y1⟩, ⟨v0, v1⟩, ⟨f0, f1⟩⟩ := hc
  simp only at n0 n1 x0 x1 y0 y1 v0 v1 f0 f1
  unfold Cmd.val
  cases fire
  all_goals
    by_cases hfr : frac = 0
    all_goals
      have t0 : (frac == 0) = decide (frac = 0) := rfl
      simp only [hfr, decide_true, decide_false] at t0
      have HF := Lib.hid hfr
      clear hfr
      go_enter Try.func17, Try.ntmps17
      go_wp2
      all_goals
        go_ret
        refine ⟨ret_b ?_, (Below.refl _ _).alloc (Nat.le_refl _) _⟩
        have hf := HF.out
        rw [Bool.eq_iff_iff]
        unfold Frm
        simp
        try omega

set_option maxHeartbeats 2000000 in
theorem rformed (w : World) (c : Cmd) (hc : c.wf) : Calls Try.prog 18 #[c.val] w fun e' w' => e' = .returned (.bool (decide (Frm c))) ∧ Below w.heap.size w w' := by
  obtain ⟨num, mx, my, fire, view, frac⟩ := c
  unfold Cmd.wf at hc
  obtain ⟨⟨n0, n1⟩, ⟨x0, x1⟩, ⟨y0, y1⟩, ⟨v0, v1⟩, ⟨f0, f1⟩⟩ := hc
  simp only at n0 n1 x0 x1 y0 y1 v0 v1 f0 f1
  unfold Cmd.val
  cases fire
  all_goals
    by_cases hfr : frac = 0
    all_goals
      have t0 : (frac == 0) = decide (frac = 0) := rfl
      simp only [hfr, decide_true, decide_false] at t0
      have HF := Lib.hid hfr
      clear hfr
      go_enter Try.func18, Try.ntmps18
      go_wp2
      all_goals
        go_ret
        refine ⟨ret_b ?_, (Below.refl _ _).alloc (Nat.le_refl _) _⟩
        have hf := HF.out
        rw [Bool.eq_iff_iff]
        unfold Frm
        simp
        try simp only [beq_iff_eq] at *
        try omega

end Go.Proofs.Ytioogmicdonbpaa.Cmds
