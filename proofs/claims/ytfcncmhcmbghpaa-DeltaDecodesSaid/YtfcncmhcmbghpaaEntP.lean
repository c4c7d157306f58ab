/- Entities and lists of them; plain. -/
import Derived.Test.YtfcncmhcmbghpaaMem
set_option linter.unusedVariables false
set_option linter.unusedSimpArgs false
namespace Go.Proofs.Ytfcncmhcmbghpaa.Ents
open Go.RowKit

structure Enty where
  id : Int
  kind : Int
  x : Int
  y : Int
  vx : Int
  vy : Int
  hp : Int
  wt : Int

def Enty.cells (c : Enty) : List Value := [.int .i64 c.id, .int .i64 c.kind, .int .i64 c.x, .int .i64 c.y, .int .i64 c.vx, .int .i64 c.vy, .int .i64 c.hp, .int .i64 c.wt]

def i64ok (x : Int) : Prop := -9223372036854775808 ≤ x ∧ x ≤ 9223372036854775807
def Enty.wf (x : Enty) : Prop := i64ok x.id ∧ i64ok x.kind ∧ i64ok x.x ∧ i64ok x.y ∧ i64ok x.vx ∧ i64ok x.vy ∧ i64ok x.hp ∧ i64ok x.wt

def KindOk (e : Enty) : Prop := e.kind = 1 ∧ 1 ≤ e.id ∧ e.id ≤ 8 ∨ e.kind = 2 ∧ 9 ≤ e.id ∧ e.id ≤ 16
instance (x : Enty) : Decidable (KindOk x) := by unfold KindOk; infer_instance
def VecOk (x y : Int) : Prop := (-134217728 ≤ x ∧ x ≤ 134217728) ∧ (-134217728 ≤ y ∧ y ≤ 134217728)
instance (x y : Int) : Decidable (VecOk x y) := by unfold VecOk; infer_instance
def SlowOk (x : Int) : Prop := -65536 ≤ x ∧ x ≤ 65536
instance (x : Int) : Decidable (SlowOk x) := by unfold SlowOk; infer_instance
def LifeOk (e : Enty) : Prop := 0 ≤ e.hp ∧ e.hp ≤ 100 ∧ 0 ≤ e.wt ∧ e.wt ≤ 20 ∧ (e.kind = 2 → e.hp = 100 ∧ e.wt = 0) ∧ (e.kind ≠ 2 → (e.hp = 0 ↔ e.wt ≠ 0))
instance (x : Enty) : Decidable (LifeOk x) := by unfold LifeOk; infer_instance
def EFrm (e : Enty) : Prop := KindOk e ∧ VecOk e.x e.y ∧ SlowOk e.vx ∧ SlowOk e.vy ∧ LifeOk e
instance (x : Enty) : Decidable (EFrm x) := by unfold EFrm; infer_instance

def ze : Enty := ⟨0, 0, 0, 0, 0, 0, 0, 0⟩
instance : Inhabited Enty := ⟨ze⟩
def el (l : List Enty) (j : Nat) : Enty := l.getD j ze

/-- A list: of formed entities, their ids one above the other. -/
def IsList (l : List Enty) : Prop := ∀ j, j < l.length → EFrm (el l j) ∧ (0 < j → (el l (j - 1)).id < (el l j).id)

noncomputable def listB (l : List Enty) : Bool := @decide (IsList l) (Classical.propDecidable _)
theorem listB_true (l : List Enty) : listB l = true ↔ IsList l := by unfold listB; exact @decide_eq_true_iff _ (Classical.propDecidable _)
theorem listB_false (l : List Enty) : listB l = false ↔ ¬ IsList l := by unfold listB; exact @decide_eq_false_iff_not _ (Classical.propDecidable _)

theorem el_get (l : List Enty) (j : Nat) (h : j < l.length) : l[j]? = some (el l j) := by
  unfold el
  rw [List.getD_eq_getElem?_getD, List.getElem?_eq_getElem h]
  rfl
theorem el_mem (l : List Enty) (j : Nat) (h : j < l.length) : el l j ∈ l := List.mem_of_getElem? (el_get l j h)

/-- Where an id stands first; -1. -/
def findAt (id : Int) : List Enty → Int → Int
  | [], _ => -1
  | e :: l, i => if e.id = id then i else findAt id l (i + 1)
def find (l : List Enty) (id : Int) : Int := findAt id l 0

theorem findAt_hit (id : Int) (l : List Enty) (i : Int) (k : Nat) (hk : k < l.length) (h : (el l k).id = id) (h0 : ∀ j, j < k → (el l j).id ≠ id) : findAt id l i = i + k := by
  induction l generalizing i k with
  | nil => simp at hk
  | cons e l ih =>
    unfold findAt
    cases k with
    | zero => rw [if_pos (by simpa [el] using h)]; simp
    | succ k =>
      rw [if_neg (by have := h0 0 (by omega); simpa [el] using this)]
      rw [ih (i + 1) k (by simpa using hk) (by simpa [el] using h) (fun j hj => by have := h0 (j + 1) (by omega); simpa [el] using this)]
      omega
theorem findAt_miss (id : Int) (l : List Enty) (i : Int) (h0 : ∀ j, j < l.length → (el l j).id ≠ id) : findAt id l i = -1 := by
  induction l generalizing i with
  | nil => rfl
  | cons e l ih =>
    unfold findAt
    rw [if_neg (by have := h0 0 (by simp); simpa [el] using this)]
    exact ih (i + 1) (fun j hj => by have := h0 (j + 1) (by simpa using hj); simpa [el] using this)
theorem find_hit (l : List Enty) (id : Int) (k : Nat) (hk : k < l.length) (h : (el l k).id = id) (h0 : ∀ j, j < k → (el l j).id ≠ id) : find l id = k := by
  unfold find; rw [findAt_hit id l 0 k hk h h0]; omega
theorem find_miss (l : List Enty) (id : Int) (h0 : ∀ j, j < l.length → (el l j).id ≠ id) : find l id = -1 := findAt_miss id l 0 h0

end Go.Proofs.Ytfcncmhcmbghpaa.Ents
