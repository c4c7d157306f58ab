/- Parts of rows of commands, and rows of cells; plain. -/
import Derived.Test.YtioogmicdonbpaaCmdB
set_option linter.unusedVariables false
set_option linter.unusedSimpArgs false
namespace Go.Proofs.Ytioogmicdonbpaa.Cmds
open Go.RowKit Go.Proofs.Ytioogmicdonbpaa.Mem Go.Proofs.Ytioogmicdonbpaa.Bits Go.Proofs.Ytioogmicdonbpaa.Open

theorem el_take (l : List Cmd) (k j : Nat) (h : j < k) : el (l.take k) j = el l j := by
  unfold el
  rw [List.getD_eq_getElem?_getD, List.getD_eq_getElem?_getD, List.getElem?_take, if_pos h]
theorem el_drop (l : List Cmd) (k j : Nat) : el (l.drop k) j = el l (k + j) := by
  unfold el
  rw [List.getD_eq_getElem?_getD, List.getD_eq_getElem?_getD, List.getElem?_drop]
theorem el_app1 (a b : List Cmd) (j : Nat) (h : j < a.length) : el (a ++ b) j = el a j := by
  unfold el
  rw [List.getD_eq_getElem?_getD, List.getD_eq_getElem?_getD, List.getElem?_append_left h]
theorem el_app2 (a b : List Cmd) (j : Nat) (h : a.length ≤ j) : el (a ++ b) j = el b (j - a.length) := by
  unfold el
  rw [List.getD_eq_getElem?_getD, List.getD_eq_getElem?_getD, List.getElem?_append_right h]
theorem el_rev (l : List Cmd) (j : Nat) (h : j < l.length) : el l.reverse j = el l (l.length - 1 - j) := by
  unfold el
  rw [List.getD_eq_getElem?_getD, List.getD_eq_getElem?_getD, List.getElem?_reverse h]

theorem row_take (l : List Cmd) (k : Nat) (h : IsRow l) (h1 : 1 ≤ k) (hk : k ≤ l.length) : rowB (l.take k) = true := by
  rw [rowB_true]
  have h0 := h.1
  refine ⟨by rw [List.length_take]; omega, fun j hj => ?_⟩
  rw [List.length_take] at hj
  rw [el_take _ _ _ (by omega), el_take _ _ _ (by omega)]
  exact h.2 j (by omega)
theorem row_drop (l : List Cmd) (k : Nat) (h : IsRow l) (hk : k < l.length) : rowB (l.drop k) = true := by
  rw [rowB_true]
  have h0 := h.1
  refine ⟨by rw [List.length_drop]; omega, fun j hj => ?_⟩
  rw [List.length_drop] at hj
  rw [el_drop, el_drop]
  have a := h.2 (k + j) (by omega)
  have b := h.2 (k + 0) (by omega)
  refine ⟨a.1, ?_⟩
  rw [a.2, b.2]
  omega
theorem row_gap (l : List Cmd) (k : Nat) (h : IsRow l) (h1 : 1 ≤ k) (hk : k + 1 < l.length) : rowB (l.take k ++ l.drop (k + 1)) = false := by
  rw [rowB_false]
  intro g
  have hl : (l.take k).length = k := by rw [List.length_take]; omega
  have := (g.2 k (by rw [List.length_append, hl, List.length_drop]; omega)).2
  rw [el_app2 _ _ _ (by omega), el_app1 _ _ _ (by omega), hl, el_drop, el_take _ _ _ (by omega), (h.2 (k + 1 + (k - k)) (by omega)).2] at this
  omega
theorem row_rev (l : List Cmd) (h : IsRow l) (h3 : 3 ≤ l.length) : rowB l.reverse = false := by
  rw [rowB_false]
  intro g
  have := (g.2 1 (by rw [List.length_reverse]; omega)).2
  rw [el_rev _ _ (by omega), el_rev _ _ (by omega), (h.2 (l.length - 1 - 1) (by omega)).2, (h.2 (l.length - 1 - 0) (by omega)).2] at this
  omega
theorem row_nil : rowB [] = false := by
  rw [rowB_false]
  intro g
  have := g.1.1
  simp at this

def cellsL (l : List Cmd) : List Value := l.flatMap Cmd.cells
theorem cells_len (c : Cmd) : c.cells.length = 6 := rfl
theorem cellsL_length (l : List Cmd) : (cellsL l).length = l.length * 6 := by
  unfold cellsL
  induction l with
  | nil => rfl
  | cons c l ih => simp only [List.flatMap_cons, List.length_append, cells_len, ih, List.length_cons]; omega
theorem cellsL_get (l : List Cmd) (i j : Nat) (hi : i < l.length) (hj : j < 6) : (cellsL l)[i * 6 + j]? = (el l i).cells[j]? := by
  unfold cellsL
  induction l generalizing i with
  | nil => simp at hi
  | cons c l ih =>
    rw [List.flatMap_cons]
    cases i with
    | zero =>
      rw [List.getElem?_append_left (by rw [cells_len]; omega)]
      simp [el]
    | succ i =>
      rw [List.getElem?_append_right (by rw [cells_len]; omega), cells_len, show (i + 1) * 6 + j - 6 = i * 6 + j by omega, ih i (by simpa using hi)]
      rfl
theorem cellsL_append (a b : List Cmd) : cellsL (a ++ b) = cellsL a ++ cellsL b := by unfold cellsL; rw [List.flatMap_append]
theorem cellsL_one (l : List Cmd) : ∀ u, u ∈ cellsL l → u.oneCell' = true := by
  intro u hu
  unfold cellsL at hu
  obtain ⟨c, _, hc⟩ := List.mem_flatMap.1 hu
  simp only [Cmd.cells, List.mem_cons, List.not_mem_nil, or_false] at hc
  rcases hc with rfl | rfl | rfl | rfl | rfl | rfl <;> rfl

theorem add_none (b off n : Nat) : (⟨b, off, none⟩ : Addr).add n = ⟨b, off + n, none⟩ := by
  unfold Addr.add; split <;> simp_all

/-- The cells of a list that lies there, one behind the other. -/
theorem cells_flat {w : World} {b off c : Nat} {l : List Cmd} (hv : RdL w (.slice (some ⟨b, off, none⟩) l.length c) 6 (l.map Cmd.cells)) :
    ∀ j u, (cellsL l)[j]? = some u → w.cell? ((⟨b, off, none⟩ : Addr).add j) = some u := by
  intro j u hu
  have hj : j < l.length * 6 := by have := (List.getElem?_eq_some_iff.1 hu).1; rwa [cellsL_length] at this
  rcases hv with ⟨h, _⟩ | ⟨ad, c', h, _, _, hr⟩
  · cases h
  · simp only [Value.slice.injEq, Option.some.injEq] at h
    obtain ⟨rfl, _, rfl⟩ := h
    have hi : j / 6 < l.length := by omega
    have hm : (l.map Cmd.cells)[j / 6]? = some (el l (j / 6)).cells := by rw [List.getElem?_map, el_get l _ hi]; rfl
    rw [show j = j / 6 * 6 + j % 6 by omega, cellsL_get l _ _ hi (by omega)] at hu
    have := (hr _ _ hm).2 _ _ hu
    rwa [show j / 6 * 6 + j % 6 = j by omega] at this

/-- A part of a list that lies there. -/
theorem RdL.part {w : World} {b off c : Nat} {l : List Cmd} (hv : RdL w (.slice (some ⟨b, off, none⟩) l.length c) 6 (l.map Cmd.cells)) (s n c' : Nat) (hn : s + n ≤ l.length) (hc : n ≤ c') (hcm : c' ≤ maxLen) :
    RdL w (.slice (some ⟨b, off + s * 6, none⟩) n c') 6 (((l.drop s).take n).map Cmd.cells) := by
  rcases hv with ⟨h, _⟩ | ⟨ad, c0, h, _, hm, hr⟩
  · cases h
  · simp only [Value.slice.injEq, Option.some.injEq] at h
    obtain ⟨rfl, _, rfl⟩ := h
    have hl : (((l.drop s).take n).map Cmd.cells).length = n := by rw [List.length_map, List.length_take, List.length_drop]; omega
    refine .inr ⟨⟨b, off + s * 6, none⟩, c', by rw [hl], by rw [hl]; exact hc, hcm, fun i cs hi => ?_⟩
    have hin : i < n := by have := (List.getElem?_eq_some_iff.1 hi).1; omega
    rw [List.getElem?_map, List.getElem?_take, if_pos hin, List.getElem?_drop, ← List.getElem?_map] at hi
    have := hr _ _ hi
    refine ⟨this.1, fun j u hu => ?_⟩
    have := this.2 j u hu
    rw [add_none] at this ⊢
    rw [show off + s * 6 + (i * 6 + j) = off + ((s + i) * 6 + j) by omega]
    exact this

/-- A list in a row of the call's own. -/
theorem Holds.rdL {W w : World} {B : Nat} {v : Value} {e : TypeId} {l : List Cmd} {F : List Ent} (h : Holds W B w (.rw v e 6 l.length (cellsL l) :: F)) : RdL w v 6 (l.map Cmd.cells) := by
  by_cases h0 : l.length = 0
  · have : l = [] := List.eq_nil_of_length_eq_zero h0
    subst this
    rcases h.own.2 with ⟨rfl, _⟩ | ⟨g, cap, cur, rfl, _, hg, _, hcm, _⟩
    · exact .inl ⟨rfl, rfl⟩
    · exact .inr ⟨⟨g, 0, none⟩, cap, rfl, by simp, hcm, fun i cs hi => by simp at hi⟩
  · obtain ⟨g, cap, rfl, hcap, _, _⟩ := h.row (by omega)
    have hcm : cap ≤ maxLen := by
      rcases h.own.2 with ⟨h, _⟩ | ⟨g, cap', cur, h, _, hg, _, hcm, _⟩
      · cases h
      · simp only [Value.slice.injEq] at h; obtain ⟨_, _, rfl⟩ := h; exact hcm
    refine .inr ⟨⟨g, 0, none⟩, cap, by rw [List.length_map], by rw [List.length_map]; exact hcap, hcm, fun i cs hi => ?_⟩
    rw [List.getElem?_map, Option.map_eq_some_iff] at hi
    obtain ⟨c, hc, rfl⟩ := hi
    have hil := (List.getElem?_eq_some_iff.1 hc).1
    rw [el_get l i hil] at hc
    obtain rfl := Option.some.inj hc
    refine ⟨rfl, fun j u hu => ?_⟩
    have hj : j < 6 := by have := (List.getElem?_eq_some_iff.1 hu).1; rwa [cells_len] at this
    rw [add_none, Nat.zero_add, h.rcell _ (by omega), cellsL_get l i j hil hj, hu]

end Go.Proofs.Ytioogmicdonbpaa.Cmds
