/- Arguments opened: what the cells of a value are, by its type; a slice of whatever elements. -/
import Derived.Test.YtpnnalkihcemhaaMem
import Derived.WalkKit
import Derived.ProofKit
import Derived.OpenShut
import Derived.Deep.Slices
set_option linter.unusedVariables false
set_option linter.unusedSimpArgs false
namespace Go.Proofs.Ytpnnalkihcemhaa.Open
open Go.RowKit Go.Proofs.Ytpnnalkihcemhaa.Mem Go.Deep Go.WideShapes Go.ChangeShapes

section
variable {H : Type} {enc : TypeId × Value → H} {P : Program} {w : World} {base : Nat} {sp : Nat → Bool} {held : Bool}

inductive Leaf where
  | int (k : IntKind) | bool | str | sl (t : TypeId)

def Leaf.ok (enc : TypeId × Value → H) (P : Program) (w : World) (base : Nat) (sp : Nat → Bool) (held : Bool) : Leaf → Value → Prop
  | .int k, v => ∃ n, v = .int k n ∧ (Lit.int k n).wf = true
  | .bool, v => ∃ b, v = .bool b
  | .str, v => ∃ s : ByteArray, v = .string s ∧ s.size ≤ maxLen
  | .sl t, v => ∃ fuel x, DataW.trod enc P w base sp held fuel t [v] = some x

def Leafs (enc : TypeId × Value → H) (P : Program) (w : World) (base : Nat) (sp : Nat → Bool) (held : Bool) : List Leaf → List Value → Prop
  | [], [] => True
  | l :: ls, v :: vs => l.ok enc P w base sp held v ∧ Leafs enc P w base sp held ls vs
  | _, _ => False

theorem Leafs.append {l1 l2 : List Leaf} {c1 c2 : List Value} (h1 : Leafs enc P w base sp held l1 c1) (h2 : Leafs enc P w base sp held l2 c2) : Leafs enc P w base sp held (l1 ++ l2) (c1 ++ c2) := by
  induction l1 generalizing c1 with
  | nil => cases c1 with
    | nil => exact h2
    | cons v vs => exact h1.elim
  | cons l ls ih => cases c1 with
    | nil => exact h1.elim
    | cons v vs => exact ⟨h1.1, ih h1.2⟩

theorem Leafs.nil_inv {cs : List Value} (h : Leafs enc P w base sp held [] cs) : cs = [] := by
  cases cs with
  | nil => rfl
  | cons v vs => exact h.elim
theorem Leafs.int_inv {k : IntKind} {ls : List Leaf} {cs : List Value} (h : Leafs enc P w base sp held (.int k :: ls) cs) : ∃ n vs, cs = .int k n :: vs ∧ (Lit.int k n).wf = true ∧ Leafs enc P w base sp held ls vs := by
  cases cs with
  | nil => exact h.elim
  | cons v vs => obtain ⟨⟨n, rfl, hw⟩, h2⟩ := h; exact ⟨n, vs, rfl, hw, h2⟩
theorem Leafs.bool_inv {ls : List Leaf} {cs : List Value} (h : Leafs enc P w base sp held (.bool :: ls) cs) : ∃ b vs, cs = .bool b :: vs ∧ Leafs enc P w base sp held ls vs := by
  cases cs with
  | nil => exact h.elim
  | cons v vs => obtain ⟨⟨n, rfl⟩, h2⟩ := h; exact ⟨n, vs, rfl, h2⟩
theorem Leafs.str_inv {ls : List Leaf} {cs : List Value} (h : Leafs enc P w base sp held (.str :: ls) cs) : ∃ (s : ByteArray) (vs : List Value), cs = .string s :: vs ∧ s.size ≤ maxLen ∧ Leafs enc P w base sp held ls vs := by
  cases cs with
  | nil => exact h.elim
  | cons v vs => obtain ⟨⟨n, rfl, hw⟩, h2⟩ := h; exact ⟨n, vs, rfl, hw, h2⟩
theorem Leafs.sl_inv {t : TypeId} {ls : List Leaf} {cs : List Value} (h : Leafs enc P w base sp held (.sl t :: ls) cs) : ∃ v vs, cs = v :: vs ∧ (∃ fuel x, DataW.trod enc P w base sp held fuel t [v] = some x) ∧ Leafs enc P w base sp held ls vs := by
  cases cs with
  | nil => exact h.elim
  | cons v vs => exact ⟨v, vs, rfl, h.1, h.2⟩

def flatFs (P : Program) (g : TypeId → Option (List Leaf)) : Nat → List Field → Option (List Leaf)
  | _, [] => some []
  | acc, f :: fs => if f.offset = acc then (g f.type).bind fun l => if l.length = P.cellsOf f.type then (flatFs P g (acc + l.length) fs).map (l ++ ·) else none else none

/-- The cells of a type: their kinds. -/
def flat (P : Program) : Nat → TypeId → Option (List Leaf)
  | 0, _ => none
  | d + 1, t =>
    match P.underlying t with
    | some .bool => some [.bool]
    | some (.int k) => some [.int k]
    | some .string => some [.str]
    | some (.slice _) => some [.sl t]
    | some (.struct fs) => (flatFs P (flat P d) 0 fs.toList).bind fun l => if l.length = P.cellsOf t then some l else none
    | _ => none

theorem flatFs_ok {g : TypeId → Option (List Leaf)} {cs : List Value} (hg : ∀ t l fuel c x, g t = some l → DataW.trod enc P w base sp held fuel t c = some x → Leafs enc P w base sp held l c) :
    ∀ (fs : List Field) (acc : Nat) (L : List Leaf), flatFs P g acc fs = some L → (∀ f, f ∈ fs → ∃ n x, DataW.trod enc P w base sp held n f.type ((cs.drop f.offset).take (P.cellsOf f.type)) = some x) →
      Leafs enc P w base sp held L ((cs.drop acc).take L.length)
  | [], acc, L, h, _ => by
    simp only [flatFs, Option.some.injEq] at h
    subst h
    simp [Leafs]
  | f :: fs, acc, L, h, hx => by
    simp only [flatFs] at h
    split at h
    · rename_i hoff
      obtain ⟨l, hl, h⟩ := Option.bind_eq_some_iff.1 h
      split at h
      · rename_i hlen
        obtain ⟨L', hL', rfl⟩ := Option.map_eq_some_iff.1 h
        obtain ⟨n, x, hn⟩ := hx f (by simp)
        have h1 := hg _ _ _ _ _ hl hn
        have h2 := flatFs_ok hg fs _ _ hL' (fun f' hf' => hx f' (List.mem_cons_of_mem _ hf'))
        rw [hoff, ← hlen] at h1
        have := h1.append h2
        rw [List.length_append, List.take_add, List.drop_drop]
        exact this
      · cases h
    · cases h

theorem flat_ok : ∀ (d : Nat) (t : TypeId) (l : List Leaf) (fuel : Nat) (cs : List Value) (x : DataW H × List MemPlace), flat P d t = some l → DataW.trod enc P w base sp held fuel t cs = some x → Leafs enc P w base sp held l cs
  | 0, _, _, _, _, _, h, _ => by cases h
  | d + 1, t, l, fuel, cs, x, h, hx => by
    unfold flat at h
    split at h
    · rename_i ht
      simp only [Option.some.injEq] at h
      subst h
      obtain ⟨b, rfl, _⟩ := DataW.trod_bool ht hx
      exact ⟨⟨b, rfl⟩, trivial⟩
    · rename_i k ht
      simp only [Option.some.injEq] at h
      subst h
      obtain ⟨n, rfl, _, hw⟩ := DataW.trod_int ht hx
      exact ⟨⟨n, rfl, hw⟩, trivial⟩
    · rename_i ht
      simp only [Option.some.injEq] at h
      subst h
      obtain ⟨s, rfl, _, hs⟩ := DataW.trod_string ht hx
      exact ⟨⟨s, rfl, hs⟩, trivial⟩
    · rename_i e ht
      simp only [Option.some.injEq] at h
      subst h
      rcases DataW.trod_slice ht hx with ⟨rfl, _⟩ | ⟨a, len, cap, _, _, _, _, rfl, _⟩
      · exact ⟨⟨fuel, x, hx⟩, trivial⟩
      · exact ⟨⟨fuel, x, hx⟩, trivial⟩
    · rename_i fs ht
      obtain ⟨L, hL, h⟩ := Option.bind_eq_some_iff.1 h
      split at h
      · rename_i hlen
        simp only [Option.some.injEq] at h
        subst h
        obtain ⟨xs, n, _, _, hcl, hxl, hf⟩ := DataW.trod_struct ht hx
        have := flatFs_ok (cs := cs) (fun t l fuel c x => flat_ok d t l fuel c x) fs.toList 0 L hL (fun f hfm => by
          obtain ⟨i, hi, hfi⟩ := List.getElem_of_mem hfm
          have hi' : i < fs.size := by simpa using hi
          have h1 := hf i f (by rw [Array.getElem?_eq_getElem hi']; simpa using hfi)
          rw [List.getElem?_eq_getElem (by omega)] at h1
          exact ⟨n, _, h1⟩)
        rw [List.drop_zero, List.take_of_length_le (by omega)] at this
        exact this
      · cases h
    · cases h

/-- A slice of elements of 'size' cells each: the elements' cells. -/
def RdL (w : World) (v : Value) (size : Nat) (xs : List (List Value)) : Prop :=
  (v = .slice none 0 0 ∧ xs = []) ∨ ∃ ad c, v = .slice (some ad) xs.length c ∧ xs.length ≤ c ∧ c ≤ maxLen ∧ ∀ i cs, xs[i]? = some cs → cs.length = size ∧ ∀ j u, cs[j]? = some u → w.cell? (ad.add (i * size + j)) = some u

theorem open_rows {α : Type} [Inhabited α] {t e : TypeId} (ht : P.underlying t = some (.slice e)) (size : Nat) (hs : P.cellsOf e = size) (cellsOf : α → List Value) (wf : α → Prop)
    (hel : ∀ fuel cs x, DataW.trod enc P w base sp held fuel e cs = some x → ∃ o : α, cs = cellsOf o ∧ wf o) {v : Value} {fuel : Nat} {x : DataW H × List MemPlace}
    (h : DataW.trod enc P w base sp held fuel t [v] = some x) : ∃ ops : List α, RdL w v size (ops.map cellsOf) ∧ ∀ o, o ∈ ops → wf o := by
  rcases open_slice ht h with ⟨hv, _⟩ | ⟨a, len, cap, m, n, D, Pl, hv, hb, hl, hm, hmm, _, hx⟩
  · simp only [List.cons.injEq, and_true] at hv
    exact ⟨[], .inl ⟨hv, rfl⟩, fun o ho => by simp at ho⟩
  · simp only [List.cons.injEq, and_true] at hv
    subst hv
    have hlm : len ≤ m := by rw [hmm]; split <;> omega
    obtain ⟨f, hf⟩ := choose_lt (α := α) (n := len) (p := fun i o => wf o ∧ w.cells? base (a.add (i * P.cellsOf e)) (P.cellsOf e) = some (cellsOf o)) (fun i hi => by
      obtain ⟨cs', h1, h2⟩ := hx i (by omega)
      obtain ⟨o, rfl, ho⟩ := hel _ _ _ h2
      exact ⟨o, ho, h1⟩)
    refine ⟨(List.range len).map f, .inr ⟨a, cap, by simp, by simpa using hl, hm, fun i cs hcs => ?_⟩, fun o ho => ?_⟩
    · rw [List.map_map] at hcs
      simp only [List.getElem?_map, Option.map_eq_some_iff] at hcs
      obtain ⟨i', hi', rfl⟩ := hcs
      obtain ⟨hil, rfl⟩ := List.getElem?_eq_some_iff.1 hi'
      simp only [List.getElem_range, List.length_range] at hil ⊢
      obtain ⟨_, h1⟩ := hf i hil
      obtain ⟨_, h2, h3⟩ := World.cells?_some h1
      rw [hs] at h2 h3
      refine ⟨h2, fun j u hu => ?_⟩
      have hj : j < size := by have := (List.getElem?_eq_some_iff.1 hu).1; simp only [Function.comp] at this; omega
      have := h3 j hj
      rw [Deep.add_add] at this
      rw [this]
      exact hu
    · obtain ⟨i, hi, rfl⟩ := List.mem_map.1 ho
      exact (hf i (List.mem_range.1 hi)).1
end

theorem RdL.kept {w w' : World} {v : Value} {size : Nat} {xs : List (List Value)} (h : RdL w v size xs) (hb : ∀ a u, w.cell? a = some u → w'.cell? a = some u) : RdL w' v size xs := by
  rcases h with h | ⟨ad, c, hv, hc, hm, hr⟩
  · exact .inl h
  · exact .inr ⟨ad, c, hv, hc, hm, fun i cs hi => ⟨(hr i cs hi).1, fun j u hu => hb _ _ ((hr i cs hi).2 j u hu)⟩⟩

/-- An argument that is a slice: its value is one cell. -/
theorem trod_of {H : Type} {enc : TypeId × Value → H} {P : Program} {w : World} {base base' : Nat} {sp : Nat → Bool} {held : Bool} {t e : TypeId} {v : Value} {d : DataW H} {ps : List MemPlace} {r : Reach}
    (ht : P.underlying t = some (.slice e)) (hok : Value.okWide P w r base' t v) (h : DataW.Trod enc P w base sp held t v d ps) : ∃ fuel, DataW.trod enc P w base sp held fuel t [v] = some (d, ps) := by
  obtain ⟨a, len, cap, rfl⟩ := okWide_slice ht hok
  obtain ⟨fuel, hf⟩ := h
  exact ⟨fuel, by simpa [Value.cells] using hf⟩

/-- A slice's value, and its elements' cells at plain addresses. -/
theorem RdL.form {w : World} {v : Value} {size : Nat} {xs : List (List Value)} (h : RdL w v size xs) (hs : 0 < size) :
    ∃ A c, v = .slice A xs.length c ∧ xs.length ≤ c ∧ c ≤ maxLen ∧ ∀ i, i < xs.length → ∃ b off, A = some ⟨b, off, none⟩ ∧ b < w.heap.size ∧ ∀ cs, xs[i]? = some cs → ∀ j u, cs[j]? = some u → w.cell? ⟨b, off + i * size + j, none⟩ = some u := by
  rcases h with ⟨rfl, rfl⟩ | ⟨ad, c, rfl, hc, hm, hr⟩
  · exact ⟨none, 0, rfl, Nat.le_refl _, Nat.zero_le _, fun i hi => by simp at hi⟩
  · refine ⟨some ad, c, rfl, hc, hm, fun i hi => ?_⟩
    obtain ⟨b, off, spot⟩ := ad
    have h0 := hr 0 xs[0] (List.getElem?_eq_getElem (by omega))
    have hlt : 0 < xs[0].length := by omega
    have hc0 := h0.2 0 xs[0][0] (List.getElem?_eq_getElem hlt)
    have hspot : spot = none := by
      cases spot with
      | none => rfl
      | some z => simp [Addr.add, World.cell?] at hc0; split at hc0 <;> simp at hc0
    subst hspot
    refine ⟨b, off, rfl, ?_, fun cs hcs j u hu => ?_⟩
    · have := World.block_lt_of_cell? w _ hc0
      simpa [Addr.add] using this
    · have := (hr i cs hcs).2 j u hu
      have e : (⟨b, off, none⟩ : Addr).add (i * size + j) = ⟨b, off + i * size + j, none⟩ := by
        unfold Addr.add; split <;> simp_all [Nat.add_assoc]
      rwa [e] at this

end Go.Proofs.Ytpnnalkihcemhaa.Open
