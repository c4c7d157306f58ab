/- Pieces of memory picked by their places; one element appended inside a region that draws. -/
import Derived.Test.YtpnnalkihcemhaaApp
import Derived.Deep.AppendLies
set_option linter.unusedVariables false
set_option linter.unusedSimpArgs false
namespace Go.Proofs.Ytpnnalkihcemhaa.Mem
open Go.RowKit

/-- The pieces at the places l. -/
def pick (pre : List Ent) : List Nat → List Ent
  | [] => []
  | i :: l => match pre[i]? with
    | some x => x :: pick pre l
    | none => pick pre l

theorem pick_mem {pre : List Ent} {l : List Nat} {y : Ent} (h : y ∈ pick pre l) : ∃ i ∈ l, pre[i]? = some y := by
  induction l with
  | nil => simp [pick] at h
  | cons i l ih =>
    unfold pick at h
    cases hx : pre[i]? with
    | none => rw [hx] at h; obtain ⟨j, hj, hy⟩ := ih h; exact ⟨j, List.mem_cons_of_mem _ hj, hy⟩
    | some x =>
      rw [hx] at h
      rcases List.mem_cons.1 h with rfl | h
      · exact ⟨i, by simp, hx⟩
      · obtain ⟨j, hj, hy⟩ := ih h; exact ⟨j, List.mem_cons_of_mem _ hj, hy⟩

theorem key_apart0 : ∀ (L : List Ent), (L.filterMap Ent.key).Nodup → ∀ {i j : Nat} {x y : Ent}, L[i]? = some x → L[j]? = some y → i ≠ j → ∀ {k : Nat}, x.key = some k → y.key ≠ some k := by
  intro L
  induction L with
  | nil => intro _ i j x y hi; simp at hi
  | cons z L ih =>
    intro h i j x y hi hj hij k hx hy
    cases i with
    | zero =>
      cases j with
      | zero => exact hij rfl
      | succ j =>
        simp only [List.getElem?_cons_zero, Option.some.injEq] at hi
        subst hi
        simp only [List.getElem?_cons_succ] at hj
        simp only [List.filterMap_cons, hx] at h
        exact (List.nodup_cons.1 h).1 (List.mem_filterMap.2 ⟨y, List.mem_of_getElem? hj, hy⟩)
    | succ i =>
      simp only [List.getElem?_cons_succ] at hi
      cases j with
      | zero =>
        simp only [List.getElem?_cons_zero, Option.some.injEq] at hj
        subst hj
        simp only [List.filterMap_cons, hy] at h
        exact (List.nodup_cons.1 h).1 (List.mem_filterMap.2 ⟨x, List.mem_of_getElem? hi, hx⟩)
      | succ j =>
        simp only [List.getElem?_cons_succ] at hj
        have h2 : (L.filterMap Ent.key).Nodup := by
          cases hz : z.key <;> simp only [List.filterMap_cons, hz] at h
          · exact h
          · exact (List.nodup_cons.1 h).2
        exact ih h2 hi hj (fun e => hij (congrArg Nat.succ e)) hx hy

theorem key_apart {pre F : List Ent} (h : ((pre ++ F).filterMap Ent.key).Nodup) {i j : Nat} {x y : Ent} (hi : pre[i]? = some x) (hj : (pre ++ F)[j]? = some y) (hij : i ≠ j) {k : Nat} (hx : x.key = some k) : y.key ≠ some k := by
  have hi' : (pre ++ F)[i]? = some x := by
    rw [List.getElem?_append_left (List.getElem?_eq_some_iff.1 hi).1]; exact hi
  exact key_apart0 _ h hi' hj hij hx

theorem pick_nodup {pre F : List Ent} (hn : ((pre ++ F).filterMap Ent.key).Nodup) : ∀ l : List Nat, l.Nodup → ((pick pre l ++ F).filterMap Ent.key).Nodup := by
  intro l
  induction l with
  | nil =>
    intro _
    show (F.filterMap Ent.key).Nodup
    rw [List.filterMap_append] at hn
    exact (List.nodup_append.1 hn).2.1
  | cons i l ih =>
    intro hl
    have ih := ih (List.nodup_cons.1 hl).2
    unfold pick
    cases hx : pre[i]? with
    | none => exact ih
    | some x =>
      show ((x :: (pick pre l ++ F)).filterMap Ent.key).Nodup
      cases hk : x.key with
      | none => simp only [List.filterMap_cons, hk]; exact ih
      | some k =>
        simp only [List.filterMap_cons, hk]
        refine List.nodup_cons.2 ⟨fun hm => ?_, ih⟩
        obtain ⟨y, hy, hyk⟩ := List.mem_filterMap.1 hm
        rcases List.mem_append.1 hy with hy | hy
        · obtain ⟨j, hj, hjy⟩ := pick_mem hy
          have hjlt := (List.getElem?_eq_some_iff.1 hjy).1
          have hne : i ≠ j := by
            rintro rfl
            exact (List.nodup_cons.1 hl).1 hj
          exact key_apart hn hx (by rw [List.getElem?_append_left hjlt]; exact hjy) hne hk hyk
        · obtain ⟨j, hj⟩ := List.mem_iff_getElem?.1 hy
          have hilt := (List.getElem?_eq_some_iff.1 hx).1
          have hne : i ≠ pre.length + j := by omega
          exact key_apart hn hx (by rw [List.getElem?_append_right (by omega), Nat.add_sub_cancel_left]; exact hj) hne hk hyk

/-- Those pieces of the first ones that are picked, in that order, and all behind. -/
theorem Holds.sel {W w : World} {B : Nat} {F : List Ent} (pre : List Ent) (h : Holds W B w (pre ++ F)) (l : List Nat) (hl : decide l.Nodup = true) : Holds W B w (pick pre l ++ F) := by
  refine ⟨h.below, h.size, fun e he => h.each e ?_, pick_nodup h.nodup l (of_decide_eq_true hl)⟩
  rcases List.mem_append.1 he with he | he
  · obtain ⟨i, _, hi⟩ := pick_mem he
    exact List.mem_append.2 (.inl (List.mem_of_getElem? hi))
  · exact List.mem_append.2 (.inr he)

theorem one_new (w : World) (e : TypeId) (x : Value) : ∀ (j : Nat) (u : Value), [x][j]? = some u → (w.alloc (.cells #[x] e)).cell? ⟨w.heap.size, j, none⟩ = some u :=
  fun j u hu => cell_one_at rfl (by simpa using hu)
theorem one_newS (w : World) (e : TypeId) (x : Value) (a : Addr) (v : Value) : ∀ (j : Nat) (u : Value), [x][j]? = some u → ((w.setCell a v).alloc (.cells #[x] e)).cell? ⟨w.heap.size, j, none⟩ = some u :=
  fun j u hu => cell_one_at (by simp) (by simpa using hu)
theorem one_newSS (w : World) (e : TypeId) (x : Value) (a : Addr) (v : Value) (a2 : Addr) (v2 : Value) : ∀ (j : Nat) (u : Value), [x][j]? = some u → (((w.setCell a v).setCell a2 v2).alloc (.cells #[x] e)).cell? ⟨w.heap.size, j, none⟩ = some u :=
  fun j u hu => cell_one_at (by simp) (by simpa using hu)
theorem one_bool (b : Bool) : ∀ u, u ∈ [Value.bool b] → u.oneCell' = true := by intro u hu; simp at hu; rw [hu]; rfl
theorem one_int (k : IntKind) (n : Int) : ∀ u, u ∈ [Value.int k n] → u.oneCell' = true := by intro u hu; simp at hu; rw [hu]; rfl
theorem one_sl (A : Option Addr) (n c : Nat) : ∀ u, u ∈ [Value.slice A n c] → u.oneCell' = true := by intro u hu; simp at hu; rw [hu]; rfl
theorem few {n : Nat} (h : n ≤ 900000) : n + 1 ≤ 1000000 := by omega
theorem few' {n b : Nat} (h : n ≤ b) (hb : b ≤ 900000) : n + 1 ≤ 1000000 := by omega

theorem wp_append_one {P : Program} {W w : World} {B : Nat} {F : List Ent} {o : Oper} {a : Act} {K : Act → World → Prop} {Q : Exit → Act → World → Prop} (s x : Operand) (t : TypeId)
    (ho : o.op = .call { callee := .builtin .append, args := #[s, x], argTypes := #[t, t] }) (e : TypeId) (i : TypeInfo) (z : Value) (size bytes : Nat) (ht : P.underlying t = some (.slice e)) (hi : P.info? e = some i) (hz : i.zero = some z)
    (hsize : i.size = size) (hby : i.bytes = bytes) (hzs : z.cells.size = size) (hsz : 0 < size) {v : Value} {n : Nat} {xs : List Value} (hs : a.eval s = v) (hH : Holds W B w (.rw v e size n xs :: F))
    {g : Nat} (news : List Value) (hx : a.eval x = .slice (some ⟨g, 0, none⟩) 1 1) (hl : news.length = size) (hnews : ∀ j u, news[j]? = some u → w.cell? ⟨g, j, none⟩ = some u) (h1 : ∀ u, u ∈ news → u.oneCell' = true)
    (h63 : n + 1 ≤ 1000000) (hbytes : bytes ≤ 10000)
    (h : ∀ g cap w', Holds W B w' (.rw (.slice (some ⟨g, 0, none⟩) (n + 1 : Nat) cap) e size (n + 1) (xs ++ news) :: F) → K (a.put o.dst (.slice (some ⟨g, 0, none⟩) (n + 1 : Nat) cap)) w') : o.wp P a w K Q := by
  have hm : n + 1 ≤ maxLen := by unfold maxLen; omega
  have hb : (n + 1) * bytes ≤ 140737488355328 := Nat.le_trans (Nat.mul_le_mul h63 hbytes) (by decide)
  refine wp_append_lies w s x t ho B e i z size bytes ht hi hz hsize hby hzs hsz v n xs hs hH.own ⟨g, 0, none⟩ 1 1 news hx (by rw [hl, Nat.one_mul]) (fun j u hu => ?_) h1 (by decide) hm hb hH.size _ rfl ?_
  · have : (⟨g, 0, none⟩ : Addr).add j = ⟨g, j, none⟩ := by unfold Addr.add; split <;> simp_all
    rw [this]
    exact hnews j u hu
  · intro g' cap w' ho' hg hat hlt
    refine h g' cap w' (hH.grew ho' hg ?_)
    rcases hat with h1 | h1
    · exact .inl h1.symm
    · exact .inr ⟨g', rfl, by omega⟩

end Go.Proofs.Ytpnnalkihcemhaa.Mem
