/- The row of the law FragmentFeeds: for every input the call returns true, and each argument reads as it read before. No condition. -/
import Derived.Test.YtpnnalkihcemhaaRows
import Derived.Test.YtpnnalkihcemhaaFragmentFeeds
import Derived.WalkKit
import Derived.ProofKit
import Derived.OpenShut
import Derived.ShutString
import Derived.ChangeOld
import Derived.Below
import Derived.SizedLaws
import Derived.Carry
set_option linter.unusedVariables false
namespace Go.Proofs.Ytpnnalkihcemhaa.fragmentFeeds
open Go.ChangeShapes Go.WideShapes Go.ChangeAt Go.RowKit
open Go.ChangeMaps (open_string shut_string)
theorem own : ownKnob Try.prog.godebug = none := by kernel_rfl
theorem laidOut : laidOutB Try.prog = true := by kernel_rfl
set_option maxRecDepth 100000 in
theorem lifted (os : Os) (started : os.Started) (H : Type) (enc : TypeId × Value → H) :
    ReturnsInHanded {} Try.checked os 5 .any (Rows.fragmentFeedsSpec.pre6 enc Try.prog Try.f5 Rows.fragmentFeedsRow.domain false) (Rows.fragmentFeedsSpec.post enc Try.prog Try.f5 false true false false) := by
  refine returnsInHanded_of_change_sized (C := Try.checked) own started (by kernel_rfl) Try.func5
    (ChangeSpec.witness6 (enc := enc) (C := Try.checked) false ⟨#[], #[.slice none 0 0, .slice none 0 0], []⟩ 8 (by kernel_rfl) (by kernel_rfl) (by kernel_rfl) (by kernel_rfl)) ?_
  intro W base args ds gs before hval0 hW hcnd hsz0 _
  have hval : ∀ (j : Nat) t v, Try.f5.params[j]? = some t → args[j]? = some v → Value.okWide Try.prog W .any base t v := hval0
  have hW' := hW
  obtain ⟨p, q, hA0, hV, rfl, hfz, hnd⟩ := hW
  have hA : DataW.TrodAll enc Try.prog W 0 (fun _ => true) true Try.f5.params.toList args.toList ds p := hA0
  rw [Try.params5] at hA hval
  obtain ⟨v0, vs0, d0, ds0, p0, q0, hargs, rfl, rfl, h0, r0⟩ := trodAll_cons hA
  obtain ⟨v1, vs1, d1, ds1, p1, q1, rfl, rfl, rfl, h1, r1⟩ := trodAll_cons r0
  obtain ⟨rfl, rfl, rfl⟩ := trodAll_nil r1
  obtain rfl : args = #[v0, v1] := by cases args; simp_all
  obtain ⟨rfl, rfl⟩ := trodVars_none hV
  have hk0 := h0
  have hk1 := h1
  clear hA0 hval0 hsz0
  have hlt : ∀ x, x ∈ p0 ++ (p1) → x.block < W.heap.size := fun x hx => by simpa using hW'.lt x (by simpa using hx)
  refine (Frag.fragmentFeeds W v0 (hval 0 35 v0 rfl rfl) h0 v1 (hval 1 36 v1 rfl rfl) h1).mono fun e W' ⟨he, bel⟩ => ?_
  subst he
  exact ⟨_, rfl, _, _, _, [], _, [], hW', trodAll_mk1 (shut_bool Try.underlying4 _), (trodAll_cons_mk (Below.trod laidOut (by kernel_rfl) (of_decide_eq_true (by kernel_rfl)) hk0 bel (fun x hx => hlt x (List.mem_append.2 (.inl hx)))) (trodAll_cons_mk (Below.trod laidOut (by kernel_rfl) (of_decide_eq_true (by kernel_rfl)) hk1 bel (fun x hx => hlt x (List.mem_append.2 (.inr hx)))) trodAll_mk0)), rfl, bel.frame _, fun h => by cases h⟩
theorem over : Rows.fragmentFeedsRow.holds Try.pinned (OpenSpec.ofChange Rows.fragmentFeedsSpec) :=
  OpenClaim.holds_of_wide 5 Try.f5 rfl rfl rfl rfl rfl rfl rfl ⟨rfl, rfl, rfl, rfl, rfl⟩ rfl rfl rfl rfl rfl (by kernel_rfl) Try.func5 (by kernel_rfl)
    (of_decide_eq_true (by kernel_rfl)) (by unfold Func.isWrapper; first | (rw [if_pos (by decide +kernel)]; kernel_rfl) | (rw [if_neg (by decide +kernel)]; exact ⟨rfl, rfl⟩))
    (fun os started H enc _ => lifted os started H enc)
theorem proved : Rows.FragmentFeedsSaid := over
#print axioms proved
end Go.Proofs.Ytpnnalkihcemhaa.fragmentFeeds
namespace Go.Proofs.Ytpnnalkihcemhaa
/-- The row, under a short name, for the claim. -/
theorem fragmentFeeds_holds : Rows.FragmentFeedsSaid := fragmentFeeds.proved
end Go.Proofs.Ytpnnalkihcemhaa
