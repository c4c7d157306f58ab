/- Commands and rows of them; plain. -/
import Derived.Test.YtioogmicdonbpaaMem
set_option linter.unusedVariables false
set_option linter.unusedSimpArgs false
namespace Go.Proofs.Ytioogmicdonbpaa.Cmds
open Go.RowKit

structure Cmd where
  num : Int
  mx : Int
  my : Int
  fire : Bool
  view : Int
  frac : Int

def Cmd.cells (c : Cmd) : List Value := [.int .u32 c.num, .int .i8 c.mx, .int .i8 c.my, .bool c.fire, .int .u32 c.view, .int .u8 c.frac]

def Cmd.wf (x : Cmd) : Prop := (0 ≤ x.num ∧ x.num ≤ 4294967295) ∧ (-128 ≤ x.mx ∧ x.mx ≤ 127) ∧ (-128 ≤ x.my ∧ x.my ≤ 127) ∧ (0 ≤ x.view ∧ x.view ≤ 4294967295) ∧ (0 ≤ x.frac ∧ x.frac ≤ 255)

def Frm (x : Cmd) : Prop := (1 ≤ x.num ∧ x.num ≤ 2147483648) ∧ -127 ≤ x.mx ∧ -127 ≤ x.my ∧ (x.fire = true ∧ x.view ≤ 2147483648 ∨ x.fire = false ∧ x.view = 0 ∧ x.frac = 0)
instance (x : Cmd) : Decidable (Frm x) := by unfold Frm; infer_instance

def zc : Cmd := ⟨0, 0, 0, false, 0, 0⟩
def el (l : List Cmd) (j : Nat) : Cmd := l.getD j zc

/-- A row: of one to eight formed commands, their numbers one behind the other. -/
def IsRow (l : List Cmd) : Prop := (1 ≤ l.length ∧ l.length ≤ 8) ∧ ∀ j, j < l.length → Frm (el l j) ∧ (el l j).num = (el l 0).num + j

/-- As the program asks it. -/
def IsRow' (l : List Cmd) : Prop := (1 ≤ l.length ∧ l.length ≤ 8) ∧ ∀ j, j < l.length → Frm (el l j) ∧ (0 < j → (el l j).num = ((el l (j - 1)).num + 1) % 4294967296)

theorem isRow_iff (l : List Cmd) : IsRow' l ↔ IsRow l := by
  constructor
  · intro h
    refine ⟨h.1, fun j => ?_⟩
    induction j with
    | zero => intro hj; exact ⟨(h.2 0 hj).1, by simp⟩
    | succ j ih =>
      intro hj
      have h1 := ih (by omega)
      have h2 := h.2 (j + 1) hj
      have h3 := h2.2 (by omega)
      rw [Nat.add_sub_cancel, h1.2] at h3
      have h4 := h1.1
      unfold Frm at h4
      refine ⟨h2.1, ?_⟩
      rw [h3]
      omega
  · intro h
    refine ⟨h.1, fun j h2 => ⟨(h.2 j h2).1, fun h0 => ?_⟩⟩
    have h3 := (h.2 j h2).2
    have h4 := h.2 (j - 1) (by omega)
    have h5 := h4.1
    unfold Frm at h5
    rw [h3, h4.2]
    omega

noncomputable def rowB (l : List Cmd) : Bool := @decide (IsRow l) (Classical.propDecidable _)
theorem rowB_true (l : List Cmd) : rowB l = true ↔ IsRow l := by unfold rowB; exact @decide_eq_true_iff _ (Classical.propDecidable _)
theorem rowB_false (l : List Cmd) : rowB l = false ↔ ¬ IsRow l := by unfold rowB; exact @decide_eq_false_iff_not _ (Classical.propDecidable _)

theorem el_get (l : List Cmd) (j : Nat) (h : j < l.length) : l[j]? = some (el l j) := by
  unfold el
  rw [List.getD_eq_getElem?_getD, List.getElem?_eq_getElem h]
  rfl
theorem el_mem (l : List Cmd) (j : Nat) (h : j < l.length) : el l j ∈ l := List.mem_of_getElem? (el_get l j h)

end Go.Proofs.Ytioogmicdonbpaa.Cmds
