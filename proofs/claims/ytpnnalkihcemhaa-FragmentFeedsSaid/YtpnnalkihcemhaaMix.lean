/- A region that draws its order: the first n operations keep S; those that yield one value in every world that meets S are taken first; those behind the n-th need not keep S. -/
import Derived.StillTail
import Derived.OrdersHeld
import Derived.Lib.QuietBelow
set_option linter.unusedVariables false
set_option linter.unusedSimpArgs false
namespace Go.Proofs.Ytpnnalkihcemhaa.Mix
open Go Go.Sort Go.RowKit

section
variable {P : Program} {ops : Array Oper} {md : Region.Mode} {Q : Exit → Act → World → Prop} {S : World → Prop}

/-- Whatever order is picked; behind each of the first n operations S holds. -/
def Any (P : Program) (md : Region.Mode) (ops : Array Oper) (Q : Exit → Act → World → Prop) (S : World → Prop) (n : Nat) : Nat → Array Bool → Act → World → Prop
  | 0, s, a, w => Region.ready md ops s = [] ∧ Q .normal a w
  | f + 1, s, a, w => (Region.ready md ops s = [] → Q .normal a w) ∧ ∀ i ∈ Region.ready md ops s, wpOp P ops Q i (fun a' w' => (i < n → S w') ∧ Any P md ops Q S n f (s.setIfInBounds i true) a' w') a w

theorem any_wp {n : Nat} : ∀ (f : Nat) (s : Array Bool) (a : Act) (w : World), Any P md ops Q S n f s a w → wpAny P md ops Q f s a w := by
  intro f
  induction f with
  | zero => intro s a w h; exact h
  | succ f ih => intro s a w h; exact ⟨h.1, fun i hi => wpOp_mono (fun a' w' h' => ih _ a' w' h'.2) (h.2 i hi)⟩

theorem any_first {n i : Nat} {o : Oper} {v : Value} (hi : ops[i]? = some o) (hsel : ∀ (j : Nat) (o : Oper) cs b, ops[j]? = some o → o.op ≠ .select cs b)
    (hs : Region.sinkB md ops n = true) (hc : Region.chainB md ops n = true) (hn : n < ops.size) (hin : i < n) (hQ : ∀ c a w, Q (.panic c) (a.put o.dst v) w → Q (.panic c) a w) :
    ∀ (f : Nat) (s : Array Bool) (a : Act) (w : World), HeadInv md ops n s →
      (∀ j oj, ops[j]? = some oj → j ≠ i → s.getD j true = false → (∀ e ∈ oj.after, Region.binds md e = true → e.on ≠ i) → o.apart ops oj = true) →
      i ∈ Region.ready md ops s → YieldsIf P ops S o v a → S w → Any P md ops Q S n f (s.setIfInBounds i true) (a.put o.dst v) w → Any P md ops Q S n (f + 1) s a w := by
  intro f
  induction f with
  | zero =>
    intro s a w inv _ hr hy hS H
    refine ⟨fun e => by simp [e] at hr, fun j hj => ?_⟩
    by_cases hji : j = i
    · rw [hji]; exact hy.wpOp hi hS ⟨fun _ => hS, H⟩
    · have := ready_mono hj hji
      rw [H.1] at this
      cases this
  | succ f ih =>
    intro s a w inv free hr hy hS H
    refine ⟨fun e => by simp [e] at hr, fun j hj => ?_⟩
    by_cases hji : j = i
    · rw [hji]; exact hy.wpOp hi hS ⟨fun _ => hS, H⟩
    · have hjn : j < n := Nat.lt_of_not_le fun h => tail_waits hs hc hn inv _ i rfl hin (mem_ready.1 hr).1 j h hj
      obtain ⟨un, oj, hoj, all⟩ := mem_ready.1 hj
      have away : ∀ e ∈ oj.after, Region.binds md e = true → e.on ≠ i := by
        intro e he hb heq
        have := all e he hb
        rw [heq, getD_both (mem_ready.1 hr).1] at this
        exact Bool.false_ne_true this
      refine wpOp_mono (fun a' w' h => ⟨fun _ => h.2.1 hjn, ih (s.setIfInBounds j true) a' w' (inv.set hj hjn) ?_ (ready_mono hr (Ne.symm hji)) h.1 (h.2.1 hjn) ?_⟩)
        (wpOp_putIf hoj (free j oj hoj hji un away) (fun cs b => hsel i o cs b hi) (fun cs b => hsel j oj cs b hoj) hQ hy (H.2 j (ready_mono hj hji)))
      · intro k ok hk hki hun hno
        refine free k ok hk hki ?_ hno
        by_cases hjk : j = k
        · rw [← hjk]; exact un
        · rwa [getD_set_ne true hjk] at hun
      · rw [Array.setIfInBounds_comm _ _ hji]
        exact h.2.2

/-- The state of a walk: what has come up, and that the rest is in order. -/
def At (P : Program) (md : Region.Mode) (ops : Array Oper) (Q : Exit → Act → World → Prop) (S : World → Prop) (n f : Nat) (s : Array Bool) (a : Act) (w : World) : Prop := HeadInv md ops n s → Any P md ops Q S n f s a w

theorem at_take {n i : Nat} {o : Oper} {v : Value} {f : Nat} {s : Array Bool} {a : Act} {w : World} (hi : ops[i]? = some o) (hsel : Region.noSelect ops = true) (hs : Region.sinkB md ops n = true) (hc : Region.chainB md ops n = true) (hn : decide (n < ops.size) = true) (hin : decide (i < n) = true)
    (hf : Region.free md ops s i = true) (hr : (Region.ready md ops s).contains i = true) (hQ : ∀ c a w, Q (.panic c) (a.put o.dst v) w → Q (.panic c) a w) (hy : YieldsIf P ops S o v a) (hS : S w)
    (h : At P md ops Q S n f (s.setIfInBounds i true) (a.put o.dst v) w) : At P md ops Q S n (f + 1) s a w := fun inv =>
  any_first hi (Region.noSelect_spec hsel) hs hc (of_decide_eq_true hn) (of_decide_eq_true hin) hQ f s a w inv (Region.free_spec hi hf) (by simpa using hr) hy hS (h (inv.set (by simpa using hr) (of_decide_eq_true hin)))

/-- An operation of the head that is the only one that may come up. -/
theorem at_step {n i : Nat} {o : Oper} {f : Nat} {s : Array Bool} {a : Act} {w : World} (hi : ops[i]? = some o) (hin : decide (i < n) = true) (hr : Region.ready md ops s = [i]) (hw : Region.wanted o (yielded ops a.tmps) = true)
    (h : o.wp P a w (fun a' w' => S w' ∧ At P md ops Q S n f (s.setIfInBounds i true) a' w') Q) : At P md ops Q S n (f + 1) s a w := fun inv => by
  have hmem : i ∈ Region.ready md ops s := by rw [hr]; simp
  refine ⟨fun e => (by rw [hr] at e; cases e), fun j hj => ?_⟩
  obtain rfl : j = i := by rw [hr] at hj; simpa using hj
  unfold wpOp
  simp only [hi, hw, if_true]
  exact .inl (Oper.wp_mono (fun a' w' h' => ⟨fun _ => h'.1, h'.2 (inv.set hmem (of_decide_eq_true hin))⟩) h)

theorem any_tail {n : Nat} : ∀ (l : List Oper) (k : Nat) (s : Array Bool) (a : Act) (w : World), n ≤ k → (∀ j, l[j]? = ops[k + j]?) → Region.seqB md ops l.length k s = true → wpList P ops Q l a w → Any P md ops Q S n l.length s a w := by
  intro l
  induction l with
  | nil => intro k s a w _ _ hB h; exact ⟨by simpa [Region.seqB] using hB, h⟩
  | cons o l ih =>
    intro k s a w hk hl hB h
    have h0 : ops[k]? = some o := (hl 0).symm
    simp only [List.length_cons, Region.seqB, Bool.and_eq_true, decide_eq_true_eq] at hB
    refine ⟨fun e => (by rw [hB.1] at e; cases e), fun j hj => ?_⟩
    obtain rfl : j = k := by rw [hB.1] at hj; simpa using hj
    have hw : wpOp P ops Q j (wpList P ops Q l) a w := by unfold wpOp; simp only [h0]; exact h
    refine wpOp_mono (fun a' w' h' => ⟨fun hlt => absurd hlt (Nat.not_lt_of_le hk), ih (j + 1) _ a' w' (Nat.le_succ_of_le hk) (fun i => ?_) hB.2 h'⟩) hw
    have := hl (i + 1)
    rwa [List.getElem?_cons_succ, ← Nat.add_assoc, Nat.add_right_comm] at this

theorem at_tail {n f : Nat} {s : Array Bool} {a : Act} {w : World} (l : List Oper) (hf : f = l.length) (hl : l = ops.toList.drop n) (hB : Region.seqB md ops l.length n s = true) (h : wpList P ops Q l a w) : At P md ops Q S n f s a w := fun _ => by
  subst hf
  exact any_tail l n s a w (Nat.le_refl _) (fun j => by rw [hl]; simp [List.getElem?_drop]) hB h

theorem region {id : Nat} {a : Act} {w : World} {l : List Oper} (n : Nat) (S : World → Prop) (hm : P.follows .mixedOrders = true)
    (h : At P .any l.toArray Q S n l.toArray.size (Array.replicate l.toArray.size false) a w.drew) : (Code.region id l.toArray true).wp P Q a w :=
  wp_region_any hm (any_wp _ _ _ _ (h ⟨by simp, fun j oj _ hl => (by rw [getD_replicate_false] at hl; cases hl), fun t _ ht => getD_in (by simpa using ht) (getD_replicate_false _ _)⟩))
end

end Go.Proofs.Ytpnnalkihcemhaa.Mix
