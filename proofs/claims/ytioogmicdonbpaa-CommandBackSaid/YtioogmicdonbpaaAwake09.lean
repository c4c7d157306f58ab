/- The fixed fact that the laws of commands ask first. -/
import Derived.Test.YtioogmicdonbpaaRow
import Derived.Test.YtioogmicdonbpaaCmdB
set_option linter.unusedVariables false
set_option linter.unusedSimpArgs false
namespace Go.Proofs.Ytioogmicdonbpaa.Cmds
open Go.Sort Go.RowKit Go.Proofs.Ytioogmicdonbpaa.Mem Go.Proofs.Ytioogmicdonbpaa.Open Go.Proofs.Ytioogmicdonbpaa.Num

set_option maxHeartbeats 1000000 in
theorem awake09 (w : World) : Calls Try.prog 12 #[] w fun e' w' => e' = .returned (.bool true) ∧ Below w.heap.size w w' := by
  have hf : ∀ w', Calls Try.prog 17 #[.agg #[.int .u32 1, .int .i8 0, .int .i8 0, .bool false, .int .u32 0, .int .u8 0]] w' fun e w'' => e = .returned (.bool true) ∧ Below w'.heap.size w' w'' := fun w' =>
    formed w' ⟨1, 0, 0, false, 0, 0⟩ (by unfold Cmd.wf; decide)
  have HF := Lib.hid hf
  clear hf
  go_enter Try.func12, Try.ntmps12
  go_wp2_with fail
  refine (HF.out _).mono ?_
  rintro e' w1 ⟨rfl, h1⟩
  go_wp2_with fail
  have hr : RdL (w1.alloc (.cells #[.int .u32 7, .int .i8 0, .int .i8 0, .bool false, .int .u32 0, .int .u8 0] 28)) (.slice (some ⟨w1.heap.size, 0, none⟩) 1 1) 6 ([⟨7, 0, 0, false, 0, 0⟩].map Cmd.cells) := by
    have hc := cell_one_new' w1 #[.int .u32 7, .int .i8 0, .int .i8 0, .bool false, .int .u32 0, .int .u8 0] 28
    refine .inr ⟨⟨w1.heap.size, 0, none⟩, 1, rfl, by simp, by unfold maxLen; omega, fun i cs hi => ?_⟩
    match i, hi with
    | 0, hi =>
      simp only [List.map_cons, List.map_nil, List.getElem?_cons_zero, Option.some.injEq] at hi
      subst hi
      refine ⟨rfl, fun j u hu => ?_⟩
      have e : ((⟨w1.heap.size, 0, none⟩ : Addr).add (0 * 6 + j)) = ⟨w1.heap.size, j, none⟩ := by
        unfold Addr.add; split <;> simp_all
      rw [e]
      exact hc j u (by simpa [Cmd.cells] using hu)
  have hrow : rowB [⟨7, 0, 0, false, 0, 0⟩] = true := (rowB_true _).2 ⟨by simp, fun j hj => by
    have : j = 0 := by simpa using hj
    subst this
    simp [el, Frm]⟩
  have := row _ _ _ hr (fun c hc => by
    have : c = ⟨7, 0, 0, false, 0, 0⟩ := by simpa using hc
    subst this
    unfold Cmd.wf; decide)
  rw [hrow] at this
  refine this.mono ?_
  rintro e' w2 ⟨rfl, h2⟩
  go_wp2_with fail
  go_ret
  exact ⟨rfl, below_go (h1.alloc h1.size _) rfl h2⟩

end Go.Proofs.Ytioogmicdonbpaa.Cmds
