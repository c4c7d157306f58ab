/- Mix: two operations of the head may come up, in either order. -/
import Derived.Test.YtpnnalkihcemhaaMix
set_option linter.unusedVariables false
set_option linter.unusedSimpArgs false
namespace Go.Proofs.Ytpnnalkihcemhaa.Mix
open Go Go.Sort Go.RowKit

section
variable {P : Program} {ops : Array Oper} {md : Region.Mode} {Q : Exit → Act → World → Prop} {S : World → Prop}

/-- Two operations of the head are all that may come up. -/
theorem at_two {n i k : Nat} {o o2 : Oper} {f : Nat} {s : Array Bool} {a : Act} {w : World} (hi : ops[i]? = some o) (hk : ops[k]? = some o2) (hin : decide (i < n) = true) (hkn : decide (k < n) = true) (hr : Region.ready md ops s = [i, k])
    (hw : Region.wanted o (yielded ops a.tmps) = true) (hw2 : Region.wanted o2 (yielded ops a.tmps) = true)
    (h : o.wp P a w (fun a' w' => S w' ∧ At P md ops Q S n f (s.setIfInBounds i true) a' w') Q)
    (h2 : o2.wp P a w (fun a' w' => S w' ∧ At P md ops Q S n f (s.setIfInBounds k true) a' w') Q) : At P md ops Q S n (f + 1) s a w := fun inv => by
  have hmem : i ∈ Region.ready md ops s := by rw [hr]; simp
  have hmem2 : k ∈ Region.ready md ops s := by rw [hr]; simp
  refine ⟨fun e => (by rw [hr] at e; cases e), fun j hj => ?_⟩
  have hj2 : j = i ∨ j = k := by rw [hr] at hj; simpa using hj
  rcases hj2 with rfl | rfl
  · unfold wpOp
    simp only [hi, hw, if_true]
    exact .inl (Oper.wp_mono (fun a' w' h' => ⟨fun _ => h'.1, h'.2 (inv.set hmem (of_decide_eq_true hin))⟩) h)
  · unfold wpOp
    simp only [hk, hw2, if_true]
    exact .inl (Oper.wp_mono (fun a' w' h' => ⟨fun _ => h'.1, h'.2 (inv.set hmem2 (of_decide_eq_true hkn))⟩) h2)
theorem any_mono {S' : World → Prop} {n : Nat} (hS : ∀ w, S' w → S w) : ∀ (f : Nat) (s : Array Bool) (a : Act) (w : World), Any P md ops Q S' n f s a w → Any P md ops Q S n f s a w := by
  intro f
  induction f with
  | zero => intro s a w h; exact h
  | succ f ih => intro s a w h; exact ⟨h.1, fun i hi => wpOp_mono (fun a' w' h' => ⟨fun hl => hS _ (h'.1 hl), ih _ _ _ h'.2⟩) (h.2 i hi)⟩

/-- From here on more is held. -/
theorem at_strong {S' : World → Prop} {n f : Nat} {s : Array Bool} {a : Act} {w : World} (hS : ∀ w, S' w → S w) (h : At P md ops Q S' n f s a w) : At P md ops Q S n f s a w := fun inv => any_mono hS _ _ _ _ (h inv)

end

end Go.Proofs.Ytpnnalkihcemhaa.Mix
