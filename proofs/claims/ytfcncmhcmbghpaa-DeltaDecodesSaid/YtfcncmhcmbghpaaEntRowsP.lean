/- Parts of lists of entities, and rows of cells; plain. -/
import Derived.Test.YtfcncmhcmbghpaaEList
set_option linter.unusedVariables false
set_option linter.unusedSimpArgs false
namespace Go.Proofs.Ytfcncmhcmbghpaa.Ents
open Go.RowKit Go.Proofs.Ytfcncmhcmbghpaa.Mem Go.Proofs.Ytfcncmhcmbghpaa.Open

theorem el_take (l : List Enty) (k j : Nat) (h : j < k) : el (l.take k) j = el l j := by
  unfold el
  rw [List.getD_eq_getElem?_getD, List.getD_eq_getElem?_getD, List.getElem?_take, if_pos h]
theorem el_drop (l : List Enty) (k j : Nat) : el (l.drop k) j = el l (k + j) := by
  unfold el
  rw [List.getD_eq_getElem?_getD, List.getD_eq_getElem?_getD, List.getElem?_drop]
theorem el_rev (l : List Enty) (j : Nat) (h : j < l.length) : el l.reverse j = el l (l.length - 1 - j) := by
  unfold el
  rw [List.getD_eq_getElem?_getD, List.getD_eq_getElem?_getD, List.getElem?_reverse h]

theorem list_lt (l : List Enty) (h : IsList l) (k : Nat) (hk : k < l.length) : ∀ j, j < k → (el l j).id < (el l k).id := by
  induction k with
  | zero => intro j hj; omega
  | succ k ih =>
    intro j hj
    have h1 := (h (k + 1) hk).2 (by omega)
    rw [Nat.add_sub_cancel] at h1
    by_cases hjk : j = k
    · subst hjk; exact h1
    · have := ih (by omega) j (by omega); omega
theorem list_take (l : List Enty) (k : Nat) (h : IsList l) : listB (l.take k) = true := by
  rw [listB_true]
  intro j hj
  rw [List.length_take] at hj
  rw [el_take _ _ _ (by omega), el_take _ _ _ (by omega)]
  exact h j (by omega)
theorem list_drop (l : List Enty) (k : Nat) (h : IsList l) : listB (l.drop k) = true := by
  rw [listB_true]
  intro j hj
  rw [List.length_drop] at hj
  rw [el_drop, el_drop]
  refine ⟨(h (k + j) (by omega)).1, fun h0 => ?_⟩
  have := (h (k + j) (by omega)).2 (by omega)
  rwa [show k + j - 1 = k + (j - 1) by omega] at this
theorem list_rev (l : List Enty) (h : IsList l) (h2 : 2 ≤ l.length) : listB l.reverse = false := by
  rw [listB_false]
  intro g
  have := (g 1 (by rw [List.length_reverse]; omega)).2 (by omega)
  rw [el_rev _ _ (by omega), el_rev _ _ (by omega)] at this
  have h3 := list_lt l h (l.length - 1 - 0) (by omega) (l.length - 1 - 1) (by omega)
  simp only [Nat.sub_self, Nat.sub_zero] at this h3
  omega
theorem find_at (l : List Enty) (h : IsList l) (k : Nat) (hk : k < l.length) : find l (el l k).id = k :=
  find_hit l _ k hk rfl (fun j hj => by have := list_lt l h k hk j hj; omega)
theorem find_not (l : List Enty) (h : IsList l) (k : Nat) (hk : k < l.length) : find (l.take k) (el l k).id = -1 :=
  find_miss _ _ (fun j hj => by
    rw [List.length_take] at hj
    rw [el_take _ _ _ (by omega)]
    have := list_lt l h k hk j (by omega); omega)

def cellsL (l : List Enty) : List Value := l.flatMap Enty.cells
theorem cells_len (c : Enty) : c.cells.length = 8 := rfl
theorem cellsL_length (l : List Enty) : (cellsL l).length = l.length * 8 := by
  unfold cellsL
  induction l with
  | nil => rfl
  | cons c l ih => simp only [List.flatMap_cons, List.length_append, cells_len, ih, List.length_cons]; omega
theorem cellsL_get (l : List Enty) (i j : Nat) (hi : i < l.length) (hj : j < 8) : (cellsL l)[i * 8 + j]? = (el l i).cells[j]? := by
  unfold cellsL
  induction l generalizing i with
  | nil => simp at hi
  | cons c l ih =>
    rw [List.flatMap_cons]
    cases i with
    | zero =>
      rw [List.getElem?_append_left (by rw [cells_len]; omega)]
      simp [el]
    | succ i =>
      rw [List.getElem?_append_right (by rw [cells_len]; omega), cells_len, show (i + 1) * 8 + j - 8 = i * 8 + j by omega, ih i (by simpa using hi)]
      rfl
theorem cellsL_append (a b : List Enty) : cellsL (a ++ b) = cellsL a ++ cellsL b := by unfold cellsL; rw [List.flatMap_append]
theorem cellsL_one (l : List Enty) : ∀ u, u ∈ cellsL l → u.oneCell' = true := by
  intro u hu
  unfold cellsL at hu
  obtain ⟨c, _, hc⟩ := List.mem_flatMap.1 hu
  simp only [Enty.cells, List.mem_cons, List.not_mem_nil, or_false] at hc
  rcases hc with rfl | rfl | rfl | rfl | rfl | rfl | rfl | rfl <;> rfl

theorem add_none (b off n : Nat) : (⟨b, off, none⟩ : Addr).add n = ⟨b, off + n, none⟩ := by
  unfold Addr.add; split <;> simp_all

/-- The cells of a list that lies there, one behind the other. -/
theorem cells_flat {w : World} {b off c : Nat} {l : List Enty} (hv : RdL w (.slice (some ⟨b, off, none⟩) l.length c) 8 (l.map Enty.cells)) :
    ∀ j u, (cellsL l)[j]? = some u → w.cell? ((⟨b, off, none⟩ : Addr).add j) = some u := by
  intro j u hu
  have hj : j < l.length * 8 := by have := (List.getElem?_eq_some_iff.1 hu).1; rwa [cellsL_length] at this
  rcases hv with ⟨h, _⟩ | ⟨ad, c', h, _, _, hr⟩
  · cases h
  · simp only [Value.slice.injEq, Option.some.injEq] at h
    obtain ⟨rfl, _, rfl⟩ := h
    have hi : j / 8 < l.length := by omega
    have hm : (l.map Enty.cells)[j / 8]? = some (el l (j / 8)).cells := by rw [List.getElem?_map, el_get l _ hi]; rfl
    rw [show j = j / 8 * 8 + j % 8 by omega, cellsL_get l _ _ hi (by omega)] at hu
    have := (hr _ _ hm).2 _ _ hu
    rwa [show j / 8 * 8 + j % 8 = j by omega] at this

/-- A part of a list that lies there. -/
theorem RdL.part {w : World} {b off c : Nat} {l : List Enty} (hv : RdL w (.slice (some ⟨b, off, none⟩) l.length c) 8 (l.map Enty.cells)) (s n c' : Nat) (hn : s + n ≤ l.length) (hc : n ≤ c') (hcm : c' ≤ maxLen) :
    RdL w (.slice (some ⟨b, off + s * 8, none⟩) n c') 8 (((l.drop s).take n).map Enty.cells) := by
  rcases hv with ⟨h, _⟩ | ⟨ad, c0, h, _, hm, hr⟩
  · cases h
  · simp only [Value.slice.injEq, Option.some.injEq] at h
    obtain ⟨rfl, _, rfl⟩ := h
    have hl : (((l.drop s).take n).map Enty.cells).length = n := by rw [List.length_map, List.length_take, List.length_drop]; omega
    refine .inr ⟨⟨b, off + s * 8, none⟩, c', by rw [hl], by rw [hl]; exact hc, hcm, fun i cs hi => ?_⟩
    have hin : i < n := by have := (List.getElem?_eq_some_iff.1 hi).1; omega
    rw [List.getElem?_map, List.getElem?_take, if_pos hin, List.getElem?_drop, ← List.getElem?_map] at hi
    have := hr _ _ hi
    refine ⟨this.1, fun j u hu => ?_⟩
    have := this.2 j u hu
    rw [add_none] at this ⊢
    rw [show off + s * 8 + (i * 8 + j) = off + ((s + i) * 8 + j) by omega]
    exact this

/-- A list in a row of the call's own. -/
theorem Holds.rdL {W w : World} {B : Nat} {v : Value} {e : TypeId} {l : List Enty} {F : List Ent} (h : Holds W B w (.rw v e 8 l.length (cellsL l) :: F)) : RdL w v 8 (l.map Enty.cells) := by
  by_cases h0 : l.length = 0
  · have : l = [] := List.eq_nil_of_length_eq_zero h0
    subst this
    rcases h.own.2 with ⟨rfl, _⟩ | ⟨g, cap, cur, rfl, _, hg, _, hcm, _⟩
    · exact .inl ⟨rfl, rfl⟩
    · exact .inr ⟨⟨g, 0, none⟩, cap, rfl, by simp, hcm, fun i cs hi => by simp at hi⟩
  · obtain ⟨g, cap, rfl, hcap, _, _⟩ := h.row (by omega)
    have hcm : cap ≤ maxLen := by
      rcases h.own.2 with ⟨h, _⟩ | ⟨g, cap', cur, h, _, hg, _, hcm, _⟩
      · cases h
      · simp only [Value.slice.injEq] at h; obtain ⟨_, _, rfl⟩ := h; exact hcm
    refine .inr ⟨⟨g, 0, none⟩, cap, by rw [List.length_map], by rw [List.length_map]; exact hcap, hcm, fun i cs hi => ?_⟩
    rw [List.getElem?_map, Option.map_eq_some_iff] at hi
    obtain ⟨c, hc, rfl⟩ := hi
    have hil := (List.getElem?_eq_some_iff.1 hc).1
    rw [el_get l i hil] at hc
    obtain rfl := Option.some.inj hc
    refine ⟨rfl, fun j u hu => ?_⟩
    have hj : j < 8 := by have := (List.getElem?_eq_some_iff.1 hu).1; rwa [cells_len] at this
    rw [add_none, Nat.zero_add, h.rcell _ (by omega), cellsL_get l i j hil hj, hu]

end Go.Proofs.Ytfcncmhcmbghpaa.Ents
