/- The reference's channel against the program's: which numbers are open; plain. -/
import Derived.Test.YtlhlkjllihbokaaChSend
set_option linter.unusedVariables false
set_option linter.unusedSimpArgs false
namespace Go.Proofs.Ytlhlkjllihbokaa.R14
open Go.RowKit Go.Proofs.Ytlhlkjllihbokaa.Ser Go.Proofs.Ytlhlkjllihbokaa.Chan

/-- The places that are true, from i on. -/
def opn (i : Nat) : List Bool → List Int
  | [] => []
  | b :: l => if b then (i : Int) :: opn (i + 1) l else opn (i + 1) l
theorem opn_append (i : Nat) (l m : List Bool) : opn i (l ++ m) = opn i l ++ opn (i + l.length) m := by
  induction l generalizing i with
  | nil => rfl
  | cons b l ih =>
    simp only [List.cons_append, opn, List.length_cons]
    rw [ih, show i + 1 + l.length = i + (l.length + 1) by omega]
    cases b <;> rfl
theorem opn_len (i : Nat) (l : List Bool) : (opn i l).length = l.count true := by
  induction l generalizing i with
  | nil => rfl
  | cons b l ih => cases b <;> simp [opn, ih]
theorem opn_take (l : List Bool) (k : Nat) (b : Bool) (h : l[k]? = some b) : opn 0 (l.take (k + 1)) = opn 0 (l.take k) ++ (if b then [(k : Int)] else []) := by
  have hk := (List.getElem?_eq_some_iff.1 h).1
  rw [List.take_add_one, h, Option.toList, opn_append, List.length_take, Nat.zero_add, Nat.min_eq_left (Nat.le_of_lt hk)]
  cases b <;> rfl
theorem opn_range (l : List Bool) : ∀ i, ∀ x ∈ opn i l, (i : Int) ≤ x ∧ x < ((i + l.length : Nat) : Int) := by
  induction l with
  | nil => intro i x h; cases h
  | cons b l ih =>
    intro i x h
    have h2 : x = i ∨ x ∈ opn (i + 1) l := by
      cases b
      · exact .inr h
      · exact List.mem_cons.1 h
    rcases h2 with rfl | h2
    · simp only [List.length_cons]; omega
    · have := ih (i + 1) x h2
      simp only [List.length_cons]
      omega

/-- Of which those are struck that p holds of. -/
def clr (p : Int → Bool) (i : Nat) : List Bool → List Bool
  | [] => []
  | b :: l => (b && !p i) :: clr p (i + 1) l
theorem clr_len (p : Int → Bool) (i : Nat) (l : List Bool) : (clr p i l).length = l.length := by
  induction l generalizing i with
  | nil => rfl
  | cons b l ih => simp [clr, ih]
theorem clr_append (p : Int → Bool) (i : Nat) (l m : List Bool) : clr p i (l ++ m) = clr p i l ++ clr p (i + l.length) m := by
  induction l generalizing i with
  | nil => rfl
  | cons b l ih =>
    simp only [List.cons_append, clr, List.length_cons]
    rw [ih, show i + 1 + l.length = i + (l.length + 1) by omega]
theorem opn_clr (p : Int → Bool) (i : Nat) (l : List Bool) : opn i (clr p i l) = (opn i l).filter (fun x => !p x) := by
  induction l generalizing i with
  | nil => rfl
  | cons b l ih =>
    simp only [clr, opn]
    rw [ih]
    cases b
    · rfl
    · cases hp : p i <;> simp [hp]

/-- Where the striking stands: the first k are done. -/
def half (p : Int → Bool) (l : List Bool) (k : Nat) : List Bool := clr p 0 (l.take k) ++ l.drop k
theorem half_0 (p : Int → Bool) (l : List Bool) : half p l 0 = l := by simp [half, clr]
theorem half_end (p : Int → Bool) (l : List Bool) : half p l l.length = clr p 0 l := by simp [half]
theorem half_len (p : Int → Bool) (l : List Bool) (k : Nat) : (half p l k).length = l.length := by
  unfold half; rw [List.length_append, clr_len, List.length_take, List.length_drop]; omega
theorem half_at (p : Int → Bool) (l : List Bool) (k : Nat) : (half p l k)[k]? = l[k]? := by
  unfold half
  by_cases hk : k ≤ l.length
  · rw [List.getElem?_append_right (by rw [clr_len, List.length_take]; omega), clr_len, List.length_take, List.getElem?_drop]
    congr 1; omega
  · rw [List.getElem?_eq_none (by rw [List.length_append, clr_len, List.length_take, List.length_drop]; omega), List.getElem?_eq_none (by omega)]
theorem half_next {p : Int → Bool} {l : List Bool} {k : Nat} {b : Bool} (h : l[k]? = some b) : half p l (k + 1) = (half p l k).set k (b && !p k) := by
  obtain ⟨hk, hb⟩ := List.getElem?_eq_some_iff.1 h
  unfold half
  rw [List.take_add_one, h, Option.toList, clr_append, List.length_take, Nat.min_eq_left (Nat.le_of_lt hk), Nat.zero_add, List.append_assoc]
  have hlen : (clr p 0 (l.take k)).length = k := by rw [clr_len, List.length_take]; omega
  rw [List.set_append_right _ _ (by omega), hlen, Nat.sub_self]
  congr 1
  rw [List.drop_eq_getElem_cons hk]
  rfl
theorem half_stays {p : Int → Bool} {l : List Bool} {k : Nat} {b : Bool} (h : l[k]? = some b) (hs : (b && !p k) = b) : half p l (k + 1) = half p l k := by
  rw [half_next h, hs]
  have h2 : (half p l k)[k]? = some b := by rw [half_at]; exact h
  obtain ⟨hk, hb⟩ := List.getElem?_eq_some_iff.1 h2
  rw [← hb, List.set_getElem_self]
theorem opn_filter_take {p : Int → Bool} {l : List Bool} {k : Nat} {b : Bool} (h : l[k]? = some b) : (opn 0 (l.take (k + 1))).filter p = (opn 0 (l.take k)).filter p ++ (if b && p k then [(k : Int)] else []) := by
  rw [opn_take l k b h, List.filter_append]
  cases b
  · rfl
  · cases hp : p k <;> simp [hp]

/-- Of the true ones the last 64 are kept. -/
def kept : List Bool → List Bool
  | [] => []
  | b :: l => (b && decide ((b :: l).count true ≤ 64)) :: kept l
theorem kept_len (l : List Bool) : (kept l).length = l.length := by
  induction l with
  | nil => rfl
  | cons b l ih => simp [kept, ih]
theorem kept_few (l : List Bool) (h : l.count true ≤ 64) : kept l = l := by
  induction l with
  | nil => rfl
  | cons b l ih =>
    unfold kept
    rw [decide_eq_true h, ih (by cases b <;> simp at h ⊢ <;> omega)]
    simp
theorem kept_65 (l : List Bool) (i : Nat) (h : l.count true = 65) : opn i (kept l) = (opn i l).drop 1 := by
  induction l generalizing i with
  | nil => simp at h
  | cons b l ih =>
    unfold kept
    cases b with
    | false =>
      simp only [Bool.false_and, opn]
      exact ih (i + 1) (by simpa using h)
    | true =>
      rw [decide_eq_false (by omega)]
      simp only [Bool.and_false, opn]
      have : l.count true = 64 := by simpa using h
      rw [kept_few l (by omega)]
      rfl
theorem send_open {op : List Int} {L : List Bool} (h : op = opn 0 L) (hl : op.length ≤ 64) : nextO op (L.length : Int) = opn 0 (kept (L ++ [true])) := by
  have hc : (L ++ [true]).count true = op.length + 1 := by rw [h, opn_len]; simp
  have he : opn 0 (L ++ [true]) = op ++ [(L.length : Int)] := by rw [opn_append, h]; simp [opn]
  unfold nextO
  by_cases h64 : op.length = 64
  · rw [kept_65 _ _ (by omega), he, if_pos (by rw [List.length_append, h64]; simp)]
  · rw [kept_few _ (by omega), he, if_neg (by rw [List.length_append, List.length_singleton]; omega)]

/-- Where the keeping stands: those from j on are done. -/
def keep (l : List Bool) (j : Nat) : List Bool := l.take j ++ kept (l.drop j)
theorem keep_end (l : List Bool) : keep l l.length = l := by simp [keep, kept]
theorem keep_0 (l : List Bool) : keep l 0 = kept l := by simp [keep]
theorem keep_len (l : List Bool) (j : Nat) : (keep l j).length = l.length := by
  unfold keep; rw [List.length_append, kept_len, List.length_take, List.length_drop]; omega
theorem keep_at (l : List Bool) (j : Nat) (hj : j < l.length) : (keep l (j + 1))[j]? = l[j]? := by
  unfold keep
  rw [List.getElem?_append_left (by rw [List.length_take]; omega), List.getElem?_take, if_pos (by omega)]
theorem keep_next (l : List Bool) (j : Nat) (b : Bool) (h : l[j]? = some b) : keep l j = (keep l (j + 1)).set j (b && decide ((l.drop j).count true ≤ 64)) := by
  obtain ⟨hj, hb⟩ := List.getElem?_eq_some_iff.1 h
  unfold keep
  rw [List.set_append_left _ _ (by rw [List.length_take]; omega), List.take_add_one, h, Option.toList, List.set_append_right _ _ (by rw [List.length_take]; omega), List.length_take, Nat.min_eq_left (Nat.le_of_lt hj), Nat.sub_self, List.append_assoc]
  congr 1
  rw [List.drop_eq_getElem_cons hj, hb]
  rfl
theorem count_drop (l : List Bool) (j : Nat) (b : Bool) (h : l[j]? = some b) : (l.drop j).count true = (l.drop (j + 1)).count true + (if b then 1 else 0) := by
  obtain ⟨hj, hb⟩ := List.getElem?_eq_some_iff.1 h
  rw [List.drop_eq_getElem_cons hj, hb]
  cases b <;> simp
theorem keep_same (l : List Bool) (j : Nat) (h : l[j]? = some false) : keep l j = keep l (j + 1) := by
  rw [keep_next l j false h, Bool.false_and]
  obtain ⟨hj, _⟩ := List.getElem?_eq_some_iff.1 h
  have h2 : (keep l (j + 1))[j]? = some false := by rw [keep_at l j hj]; exact h
  obtain ⟨hk, hb⟩ := List.getElem?_eq_some_iff.1 h2
  rw [← hb, List.set_getElem_self]

end Go.Proofs.Ytlhlkjllihbokaa.R14
