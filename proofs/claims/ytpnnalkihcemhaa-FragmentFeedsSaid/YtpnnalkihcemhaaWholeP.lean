/- Four messages' parts, fed in whatever order: what is answered; plain. -/
import Derived.Test.YtpnnalkihcemhaaFeedT
set_option linter.unusedVariables false
set_option linter.unusedSimpArgs false
namespace Go.Proofs.Ytpnnalkihcemhaa.Frag
open Go.RowKit Go.Proofs.Ytpnnalkihcemhaa.Mem Go.Proofs.Ytpnnalkihcemhaa.Bits Go.Proofs.Ytpnnalkihcemhaa.Wr Go.Proofs.YtpnnalkihcemhaaW.PrintWords

/-- How many parts of message m are left. -/
def cntR (R : List (Nat × Nat)) (m : Nat) : Nat := R.countP fun p => p.1 == m
def stW (S : Nat → Snt) (T : List (Nat × List Nat)) : List Msg := T.map fun t => (S t.1).msg t.2
structure WInv (S : Nat → Snt) (R : List (Nat × Nat)) (T : List (Nat × List Nat)) : Prop where
  rem : ∀ p ∈ R, p.1 < 4 ∧ (S p.1).ok ∧ p.2 < (S p.1).n
  nod : R.Nodup
  keys : (T.map (·.1)).Nodup
  t4 : ∀ t ∈ T, t.1 < 4
  tn : ∀ t ∈ T, t.2.Nodup
  tl : ∀ t ∈ T, ∀ j ∈ t.2, j < (S t.1).n ∧ (t.1, j) ∉ R
  tc : ∀ t ∈ T, cntR R t.1 + t.2.length = (S t.1).n ∧ 0 < cntR R t.1
  un : ∀ m, m ∉ T.map (·.1) → cntR R m = 0 ∨ cntR R m = (S m).n

theorem cntR_perm {R R' : List (Nat × Nat)} (h : R.Perm R') (m : Nat) : cntR R m = cntR R' m := h.countP_eq _
theorem cntR_cons (R : List (Nat × Nat)) (m j x : Nat) : cntR ((m, j) :: R) x = cntR R x + if x = m then 1 else 0 := by
  unfold cntR
  rw [List.countP_cons]
  by_cases h : m = x
  · subst h; simp
  · have : (m == x) = false := beq_eq_false_iff_ne.2 h
    simp [this, Ne.symm h]

theorem WInv.done {S : Nat → Snt} {T : List (Nat × List Nat)} (h : WInv S [] T) : T = [] := by
  cases T with
  | nil => rfl
  | cons t T =>
    have := (h.tc t (by simp)).2
    simp [cntR] at this

theorem WInv.step {S : Nat → Snt} {R R' : List (Nat × Nat)} {T : List (Nat × List Nat)} {m j : Nat} (h : WInv S R T) (hp : R.Perm ((m, j) :: R')) (hid : ∀ a b, a < 4 → b < 4 → a ≠ b → (S a).id ≠ (S b).id) :
    ∃ T', WInv S R' T' ∧ feedA (stW S T) (part (S m).id (S m).bs j) = (stW S T', if cntR R' m = 0 then ⟨some (S m).bs, 0⟩ else ⟨none, 0⟩) := by
  obtain ⟨hm4, hok, hj⟩ := h.rem (m, j) (hp.mem_iff.2 (by simp))
  dsimp only at hm4 hok hj
  have hn := Snt.n14 hok
  have hnd : ((m, j) :: R').Nodup := hp.nodup_iff.1 h.nod
  have hjR : (m, j) ∉ R' := (List.nodup_cons.1 hnd).1
  have hsub : ∀ p, p ∈ R' → p ∈ R := fun p hp' => hp.mem_iff.2 (List.mem_cons_of_mem _ hp')
  have hc : ∀ x, cntR R x = cntR R' x + if x = m then 1 else 0 := fun x => (cntR_perm hp x).trans (cntR_cons R' m j x)
  have hcm : cntR R m = cntR R' m + 1 := by rw [hc, if_pos rfl]
  have hco : ∀ x, x ≠ m → cntR R x = cntR R' x := fun x hx => by rw [hc, if_neg hx]; rfl
  by_cases hmT : m ∈ T.map (·.1)
  · obtain ⟨t, htT, htm⟩ := List.mem_map.1 hmT
    obtain ⟨m', f⟩ := t
    dsimp only at htm
    subst htm
    obtain ⟨T1, T2, rfl⟩ := List.append_of_mem htT
    have hjf : j ∉ f := fun hm => (h.tl _ htT j hm).2 (hp.mem_iff.2 (by simp))
    have htc := h.tc _ htT
    dsimp only at htc
    have hkeys := h.keys
    rw [List.map_append, List.map_cons] at hkeys
    have hkd := List.nodup_append.1 hkeys
    have hne1 : ∀ t ∈ T1, t.1 ≠ m' := fun t ht => hkd.2.2 _ (List.mem_map.2 ⟨t, ht, rfl⟩) _ (by simp)
    have hne2 : ∀ t ∈ T2, t.1 ≠ m' := fun t ht e => (List.nodup_cons.1 hkd.2.1).1 (e ▸ List.mem_map.2 ⟨t, ht, rfl⟩)
    have h1 : ∀ x ∈ T1.map (fun t => (S t.1).msg t.2), isMsg (headOf (part (S m').id (S m').bs j)) x = false := by
      intro x hx
      obtain ⟨t, ht, rfl⟩ := List.mem_map.1 hx
      rw [isMsg_snt hok hj, decide_eq_false (hid _ _ (h.t4 t (by simp [ht])) hm4 (hne1 t ht))]
      rfl
    have hfd := feed_next (l1 := T1.map fun t => (S t.1).msg t.2) (l2 := T2.map fun t => (S t.1).msg t.2) hok hj hjf (h.tn _ htT) (fun i hi => (h.tl _ htT i hi).1) (by omega) h1
    have est : stW S (T1 ++ (m', f) :: T2) = T1.map (fun t => (S t.1).msg t.2) ++ (S m').msg f :: T2.map fun t => (S t.1).msg t.2 := by simp [stW]
    rw [est, hfd]
    by_cases hlt : f.length + 1 < (S m').n
    · rw [if_pos hlt, if_neg (by omega)]
      refine ⟨T1 ++ (m', f ++ [j]) :: T2, ⟨fun p hp' => h.rem p (hsub p hp'), (List.nodup_cons.1 hnd).2, ?_, ?_, ?_, ?_, ?_, ?_⟩, by simp [stW]⟩
      · rw [List.map_append, List.map_cons]; exact hkeys
      · intro t ht
        rcases List.mem_append.1 ht with ht | ht
        · exact h.t4 t (by simp [ht])
        · rcases List.mem_cons.1 ht with rfl | ht
          · exact hm4
          · exact h.t4 t (by simp [ht])
      · intro t ht
        rcases List.mem_append.1 ht with ht | ht
        · exact h.tn t (by simp [ht])
        · rcases List.mem_cons.1 ht with rfl | ht
          · exact List.nodup_append.2 ⟨h.tn _ htT, by simp, fun a ha b hb => by
              rw [List.mem_singleton] at hb
              subst hb
              rintro rfl
              exact hjf ha⟩
          · exact h.tn t (by simp [ht])
      · intro t ht i hi
        rcases List.mem_append.1 ht with ht | ht
        · have := h.tl t (by simp [ht]) i hi
          exact ⟨this.1, fun hx => this.2 (hsub _ hx)⟩
        · rcases List.mem_cons.1 ht with rfl | ht
          · rcases List.mem_append.1 hi with hi | hi
            · have := h.tl _ htT i hi
              exact ⟨this.1, fun hx => this.2 (hsub _ hx)⟩
            · rw [List.mem_singleton] at hi
              subst hi
              exact ⟨hj, hjR⟩
          · have := h.tl t (by simp [ht]) i hi
            exact ⟨this.1, fun hx => this.2 (hsub _ hx)⟩
      · intro t ht
        rcases List.mem_append.1 ht with ht2 | ht2
        · rw [← hco _ (hne1 t ht2)]
          exact h.tc t (by simp [ht2])
        · rcases List.mem_cons.1 ht2 with rfl | ht2
          · simp only [List.length_append, List.length_cons, List.length_nil]
            omega
          · rw [← hco _ (hne2 t ht2)]
            exact h.tc t (by simp [ht2])
      · intro x hx
        have hxm : x ≠ m' := by
          rintro rfl
          exact hx (by simp)
        rw [← hco _ hxm]
        exact h.un x (by simpa using hx)
    · rw [if_neg hlt, if_pos (by omega)]
      refine ⟨T1 ++ T2, ⟨fun p hp' => h.rem p (hsub p hp'), (List.nodup_cons.1 hnd).2, ?_, ?_, ?_, ?_, ?_, ?_⟩, by simp [stW]⟩
      · rw [List.map_append]
        refine hkeys.sublist ?_
        exact (List.sublist_cons_self _ _).append_left _
      · intro t ht
        refine h.t4 t ?_
        rcases List.mem_append.1 ht with ht | ht <;> simp [ht]
      · intro t ht
        refine h.tn t ?_
        rcases List.mem_append.1 ht with ht | ht <;> simp [ht]
      · intro t ht i hi
        have := h.tl t (by rcases List.mem_append.1 ht with ht | ht <;> simp [ht]) i hi
        exact ⟨this.1, fun hx => this.2 (hsub _ hx)⟩
      · intro t ht
        rw [← hco _ (by
          rcases List.mem_append.1 ht with ht | ht
          · exact hne1 t ht
          · exact hne2 t ht)]
        refine h.tc t ?_
        rcases List.mem_append.1 ht with ht | ht <;> simp [ht]
      · intro x hx
        by_cases hxm : x = m'
        · subst hxm
          exact .inl (by omega)
        · rw [← hco _ hxm]
          refine h.un x ?_
          simp only [List.map_append, List.map_cons, List.mem_append, List.mem_cons] at hx ⊢
          rintro (h1 | h1 | h1)
          · exact hx (.inl h1)
          · exact hxm h1
          · exact hx (.inr h1)
  · have hcn : cntR R m = (S m).n := by
      rcases h.un m hmT with h0 | h0
      · omega
      · exact h0
    have hne : ∀ t ∈ T, t.1 ≠ m := fun t ht e => hmT (e ▸ List.mem_map.2 ⟨t, ht, rfl⟩)
    have h1 : ∀ x ∈ stW S T, isMsg (headOf (part (S m).id (S m).bs j)) x = false := by
      intro x hx
      obtain ⟨t, ht, rfl⟩ := List.mem_map.1 hx
      rw [isMsg_snt hok hj, decide_eq_false (hid _ _ (h.t4 t ht) hm4 (hne t ht))]
      rfl
    have hlen : (stW S T).length < 4 := by
      have := bound_length 4 (m :: T.map (·.1)) (List.nodup_cons.2 ⟨hmT, h.keys⟩) (fun x hx => by
        rcases List.mem_cons.1 hx with rfl | hx
        · exact hm4
        · obtain ⟨t, ht, rfl⟩ := List.mem_map.1 hx
          exact h.t4 t ht)
      simp only [List.length_cons, List.length_map] at this
      simp only [stW, List.length_map]
      omega
    rw [feed_first hok hj h1 hlen]
    by_cases hlt : 1 < (S m).n
    · rw [if_pos hlt, if_neg (by omega)]
      refine ⟨T ++ [(m, [j])], ⟨fun p hp' => h.rem p (hsub p hp'), (List.nodup_cons.1 hnd).2, ?_, ?_, ?_, ?_, ?_, ?_⟩, by simp [stW]⟩
      · rw [List.map_append]
        exact List.nodup_append.2 ⟨h.keys, by simp, fun a ha b hb => by
          simp only [List.map_cons, List.map_nil, List.mem_singleton] at hb
          subst hb
          rintro rfl
          exact hmT ha⟩
      · intro t ht
        rcases List.mem_append.1 ht with ht | ht
        · exact h.t4 t ht
        · rw [List.mem_singleton] at ht
          subst ht
          exact hm4
      · intro t ht
        rcases List.mem_append.1 ht with ht | ht
        · exact h.tn t ht
        · rw [List.mem_singleton] at ht
          subst ht
          simp
      · intro t ht i hi
        rcases List.mem_append.1 ht with ht | ht
        · have := h.tl t ht i hi
          exact ⟨this.1, fun hx => this.2 (hsub _ hx)⟩
        · rw [List.mem_singleton] at ht
          subst ht
          rw [List.mem_singleton] at hi
          subst hi
          exact ⟨hj, hjR⟩
      · intro t ht
        rcases List.mem_append.1 ht with ht | ht
        · rw [← hco _ (hne t ht)]
          exact h.tc t ht
        · rw [List.mem_singleton] at ht
          subst ht
          simp only [List.length_cons, List.length_nil]
          omega
      · intro x hx
        have hxm : x ≠ m := by
          rintro rfl
          exact hx (by simp)
        rw [← hco _ hxm]
        exact h.un x (fun h1 => hx (by rw [List.map_append]; exact List.mem_append_left _ h1))
    · rw [if_neg hlt, if_pos (by omega)]
      refine ⟨T, ⟨fun p hp' => h.rem p (hsub p hp'), (List.nodup_cons.1 hnd).2, h.keys, h.t4, h.tn, ?_, ?_, ?_⟩, rfl⟩
      · intro t ht i hi
        have := h.tl t ht i hi
        exact ⟨this.1, fun hx => this.2 (hsub _ hx)⟩
      · intro t ht
        rw [← hco _ (hne t ht)]
        exact h.tc t ht
      · intro x hx
        by_cases hxm : x = m
        · subst hxm
          exact .inl (by omega)
        · rw [← hco _ hxm]
          exact h.un x hx

/-- One taken out, the last one put in its place. -/
def swapOut {α : Type} (l : List α) (k : Nat) (z : α) : List α := (l.set k z).take (l.length - 1)
theorem swapOut_perm {α : Type} {l : List α} {k : Nat} {x z : α} (hx : l[k]? = some x) (hz : l[l.length - 1]? = some z) : l.Perm (x :: swapOut l k z) := by
  obtain ⟨hk, rfl⟩ := List.getElem?_eq_some_iff.1 hx
  have hne : l ≠ [] := by rintro rfl; simp at hk
  obtain ⟨l0, y, rfl⟩ : ∃ l0 y, l = l0 ++ [y] := ⟨l.dropLast, l.getLast hne, (List.dropLast_concat_getLast hne).symm⟩
  simp only [List.length_append, List.length_cons, List.length_nil, Nat.add_sub_cancel] at hz
  rw [List.getElem?_append_right (Nat.le_refl _), Nat.sub_self] at hz
  simp only [List.getElem?_cons_zero, Option.some.injEq] at hz
  subst hz
  unfold swapOut
  simp only [List.length_append, List.length_cons, List.length_nil, Nat.add_sub_cancel] at hk ⊢
  by_cases hkl : k < l0.length
  · rw [List.set_append_left _ _ hkl, List.take_append_of_le_length (by simp), List.take_of_length_le (by simp), List.getElem_append_left hkl]
    rw [List.set_eq_take_append_cons_drop, if_pos hkl]
    have e : l0 = l0.take k ++ l0[k] :: l0.drop (k + 1) := by rw [← List.drop_eq_getElem_cons hkl, List.take_append_drop]
    have h1 : (l0 ++ [y]).Perm (y :: l0) := List.perm_append_singleton _ _
    refine h1.trans ?_
    have h2 : l0.Perm (l0[k] :: (l0.take k ++ l0.drop (k + 1))) := by
      conv => lhs; rw [e]
      exact List.perm_middle
    refine (h2.cons y).trans ((List.Perm.swap _ _ _).trans (List.Perm.cons _ ?_))
    exact List.perm_middle.symm
  · have hke : k = l0.length := by omega
    subst hke
    rw [List.set_append_right _ _ (Nat.le_refl _), List.take_append_of_le_length (Nat.le_refl _), List.take_of_length_le (Nat.le_refl _), List.getElem_append_right (Nat.le_refl _)]
    simp only [Nat.sub_self, List.getElem_cons_zero]
    exact List.perm_append_singleton _ _
theorem swapOut_len {α : Type} (l : List α) (k : Nat) (z : α) : (swapOut l k z).length = l.length - 1 := by
  unfold swapOut
  rw [List.length_take, List.length_set]
  omega
theorem swapOut_map {α β : Type} (f : α → β) (l : List α) (k : Nat) (z : α) : (swapOut l k z).map f = swapOut (l.map f) k (f z) := by
  unfold swapOut
  rw [List.map_take, List.map_set, List.length_map]

end Go.Proofs.Ytpnnalkihcemhaa.Frag
