/- What a program that does nothing does not answer, of entities. -/
import Derived.Test.YtfcncmhcmbghpaaEFind
set_option linter.unusedVariables false
set_option linter.unusedSimpArgs false
namespace Go.Proofs.Ytfcncmhcmbghpaa.Ents
open Go.Sort Go.RowKit Go.Proofs.Ytfcncmhcmbghpaa.Mem Go.Proofs.Ytfcncmhcmbghpaa.Open Go.Proofs.Ytfcncmhcmbghpaa.Num Go.Proofs.Ytfcncmhcmbghpaa.Step

set_option maxHeartbeats 1000000 in
theorem awake10 (w : World) : Calls Try.prog 13 #[] w fun e' w' => e' = .returned (.bool true) ∧ Below w.heap.size w w' := by
  have hf : ∀ w', Calls Try.prog 14 #[.agg #[.int .i64 9, .int .i64 2, .int .i64 0, .int .i64 0, .int .i64 0, .int .i64 0, .int .i64 100, .int .i64 0]] w' fun e w'' => e = .returned (.bool true) ∧ Below w'.heap.size w' w'' := fun w' => by
    have := eformed w' ⟨9, 2, 0, 0, 0, 0, 100, 0⟩
    rw [show decide (EFrm ⟨9, 2, 0, 0, 0, 0, 100, 0⟩) = true by decide] at this
    exact this
  have HF := Lib.hid hf
  clear hf
  go_enter Try.func13, Try.ntmps13
  go_wp2_with fail
  refine (HF.out _).mono ?_
  rintro e' w1 ⟨rfl, h1⟩
  go_wp2_with fail
  have hr : RdL (w1.alloc (.cells #[.int .i64 3, .int .i64 0, .int .i64 0, .int .i64 0, .int .i64 0, .int .i64 0, .int .i64 0, .int .i64 0] 29)) (.slice (some ⟨w1.heap.size, 0, none⟩) 1 1) 8 ([⟨3, 0, 0, 0, 0, 0, 0, 0⟩].map Enty.cells) := by
    have hc := cell_one_new' w1 #[.int .i64 3, .int .i64 0, .int .i64 0, .int .i64 0, .int .i64 0, .int .i64 0, .int .i64 0, .int .i64 0] 29
    refine .inr ⟨⟨w1.heap.size, 0, none⟩, 1, rfl, by simp, by unfold maxLen; omega, fun i cs hi => ?_⟩
    match i, hi with
    | 0, hi =>
      simp only [List.map_cons, List.map_nil, List.getElem?_cons_zero, Option.some.injEq] at hi
      subst hi
      refine ⟨rfl, fun j u hu => ?_⟩
      have e : ((⟨w1.heap.size, 0, none⟩ : Addr).add (0 * 8 + j)) = ⟨w1.heap.size, j, none⟩ := by
        unfold Addr.add; split <;> simp_all
      rw [e]
      exact hc j u (by simpa [Enty.cells] using hu)
  have := efind _ _ _ 3 hr
  rw [show find [⟨3, 0, 0, 0, 0, 0, 0, 0⟩] 3 = 0 from rfl] at this
  refine this.mono ?_
  rintro e' w2 ⟨rfl, h2⟩
  go_wp2_with fail
  go_ret
  have ha := h1.alloc h1.size (.cells #[.int .i64 3, .int .i64 0, .int .i64 0, .int .i64 0, .int .i64 0, .int .i64 0, .int .i64 0, .int .i64 0] 29)
  exact ⟨rfl, ha.trans (h2.mono ha.size)⟩

end Go.Proofs.Ytfcncmhcmbghpaa.Ents
