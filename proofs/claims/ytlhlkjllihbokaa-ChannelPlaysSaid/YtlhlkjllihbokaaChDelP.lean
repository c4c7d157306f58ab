/- What slices.DeleteFunc holds on its way; plain. -/
import Derived.Test.YtlhlkjllihbokaaChIdx
set_option linter.unusedVariables false
set_option linter.unusedSimpArgs false
namespace Go.Proofs.Ytlhlkjllihbokaa.Chan
open Go.RowKit

/-- Of the row op the first j are parted: the i that stay lie ahead in L, what went is got. -/
def Parted (p : Int → Bool) (op L : List Int) (i j : Nat) (got : List Int) : Prop :=
  L.length = op.length ∧ i < j ∧ j ≤ op.length ∧ L.take i = (op.take j).filter (fun x => !p x) ∧ L.drop j = op.drop j ∧ got = (op.take j).filter p

theorem take_next (op : List Int) (k : Nat) (h : k < op.length) : op.take (k + 1) = op.take k ++ [op[k]] := by
  rw [List.take_add_one, List.getElem?_eq_getElem h]; rfl

theorem parted_start {p : Int → Bool} {op : List Int} {k : Nat} (hk : k < op.length) (h1 : ∀ j (hj : j < op.length), j < k → p op[j] = false) (h2 : p op[k] = true) : Parted p op op k (k + 1) [op[k]] := by
  have ha : ∀ x ∈ op.take k, p x = false := by
    intro x hx
    obtain ⟨j, hj, rfl⟩ := List.mem_iff_getElem.1 hx
    rw [List.length_take] at hj
    rw [List.getElem_take]
    exact h1 j (by omega) (by omega)
  have e1 : (op.take k).filter (fun x => !p x) = op.take k := List.filter_eq_self.2 fun x hx => by rw [ha x hx]; rfl
  have e2 : (op.take k).filter p = [] := List.filter_eq_nil_iff.2 fun x hx => by rw [ha x hx]; decide
  refine ⟨rfl, Nat.lt_succ_self _, hk, ?_, rfl, ?_⟩
  · rw [take_next op k hk, List.filter_append, e1]
    simp [h2]
  · rw [take_next op k hk, List.filter_append, e2]
    simp [h2]

theorem parted_at {p : Int → Bool} {op L got : List Int} {i j : Nat} (h : Parted p op L i j got) (hj : j < op.length) : L[j]? = some op[j] := by
  have e := congrArg (fun l => l[0]?) h.2.2.2.2.1
  simp only [List.getElem?_drop, Nat.add_zero] at e
  rw [e, List.getElem?_eq_getElem hj]

theorem parted_gone {p : Int → Bool} {op L got : List Int} {i j : Nat} (h : Parted p op L i j got) (hj : j < op.length) (hp : p op[j] = true) : Parted p op L i (j + 1) (got ++ [op[j]]) := by
  obtain ⟨h1, h2, h3, h4, h5, h6⟩ := h
  refine ⟨h1, by omega, hj, ?_, ?_, ?_⟩
  · rw [h4, take_next op j hj, List.filter_append]; simp [hp]
  · have := congrArg (List.drop 1) h5
    simpa [List.drop_drop] using this
  · rw [h6, take_next op j hj, List.filter_append]; simp [hp]

theorem parted_stays {p : Int → Bool} {op L got : List Int} {i j : Nat} (h : Parted p op L i j got) (hj : j < op.length) (hp : p op[j] = false) : Parted p op (L.set i op[j]) (i + 1) (j + 1) got := by
  obtain ⟨h1, h2, h3, h4, h5, h6⟩ := h
  have hi : i < L.length := by omega
  refine ⟨by rw [List.length_set]; exact h1, by omega, hj, ?_, ?_, ?_⟩
  · rw [List.take_add_one, List.take_set_of_le (Nat.le_refl _), h4, List.getElem?_set_self hi, take_next op j hj, List.filter_append]; simp [hp]
  · rw [List.drop_set, if_pos (by omega)]
    have := congrArg (List.drop 1) h5
    simpa [List.drop_drop] using this
  · rw [h6, take_next op j hj, List.filter_append]; simp [hp]

theorem parted_end {p : Int → Bool} {op L got : List Int} {i : Nat} (h : Parted p op L i op.length got) : L.take i = op.filter (fun x => !p x) ∧ got = op.filter p ∧ i < op.length ∧ (op.filter (fun x => !p x)).length = i := by
  obtain ⟨h1, h2, h3, h4, h5, h6⟩ := h
  rw [List.take_of_length_le (Nat.le_refl _)] at h4 h6
  exact ⟨h4, h6, h2, by rw [← h4, List.length_take]; omega⟩
theorem parted_none {p : Int → Bool} {op : List Int} (h : ∀ j (hj : j < op.length), p op[j] = false) : op.filter (fun x => !p x) = op ∧ op.filter p = [] := by
  have ha : ∀ x ∈ op, p x = false := by
    intro x hx
    obtain ⟨j, hj, rfl⟩ := List.mem_iff_getElem.1 hx
    exact h j hj
  exact ⟨List.filter_eq_self.2 fun x hx => by rw [ha x hx]; rfl, List.filter_eq_nil_iff.2 fun x hx => by rw [ha x hx]; decide⟩

end Go.Proofs.Ytlhlkjllihbokaa.Chan
