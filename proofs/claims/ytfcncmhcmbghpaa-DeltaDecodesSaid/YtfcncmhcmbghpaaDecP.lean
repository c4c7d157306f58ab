/- A delta read; plain: what is read is what would be put. -/
import Derived.Test.YtfcncmhcmbghpaaETakeP
import Derived.Test.YtfcncmhcmbghpaaEEnc
import Derived.Test.YtfcncmhcmbghpaaEntRowsP
set_option linter.unusedVariables false
set_option linter.unusedSimpArgs false
namespace Go.Proofs.Ytfcncmhcmbghpaa.Ents
open Go.RowKit Go.Proofs.Ytfcncmhcmbghpaa.Mem Go.Proofs.Ytfcncmhcmbghpaa.Bits Go.Proofs.Ytfcncmhcmbghpaa.Open Go.Proofs.Ytfcncmhcmbghpaa.Wr Go.Proofs.Ytfcncmhcmbghpaa.Num

theorem frm_wf {e : Enty} (h : EFrm e) : e.wf := by
  obtain ⟨h1, h2, h3, h4, h5⟩ := h
  unfold KindOk at h1
  unfold VecOk at h2
  unfold SlowOk at h3 h4
  unfold LifeOk at h5
  unfold Enty.wf i64ok
  omega

/-- The fields behind what is read for them, and how many bits it had. -/
def takeGo : List Bool → List Int → List Bool → Option (List Int × Nat)
  | b :: mk, x :: f, l =>
    if b = true then
      match readS 0 l with
      | none => none
      | some (u, k) => if unzig u = 0 then none else (takeGo mk f (l.drop (8 * k))).map fun p => (wrap64 (x + unzig u) :: p.1, 8 * k + p.2)
    else (takeGo mk f l).map fun p => (x :: p.1, p.2)
  | _, _, _ => some ([], 0)

def fiL (e : Enty) : List Int := [e.x, e.y, e.vx, e.vy, e.hp, e.wt]
def withL (bs : Enty) (f : List Int) : Enty := ⟨bs.id, bs.kind, f.getD 0 0, f.getD 1 0, f.getD 2 0, f.getD 3 0, f.getD 4 0, f.getD 5 0⟩

/-- An entity, read on a base, and how many bits it had. -/
def takeE (bs : Enty) (l : List Bool) : Option (Enty × Nat) :=
  if l.length < 6 then none
  else match takeGo (l.take 6) (fiL bs) (l.drop 6) with
    | none => none
    | some (f, n) => if EFrm (withL bs f) then some (withL bs f, 6 + n) else none

def maskL : List Int → List Int → List Bool
  | a :: f, b :: g => decide (a ≠ b) :: maskL f g
  | _, _ => []
def diffL : List Int → List Int → List Bool
  | a :: f, b :: g => (if a = b then [] else smallB (zig (wrap64 (b - a))).toNat) ++ diffL f g
  | _, _ => []

theorem mask_one (bs e : Enty) (k : Nat) : maskB bs e k = [decide (fi bs k ≠ fi e k)] := maskB_eq bs e k
theorem putB_eq (bs e : Enty) : putB bs e = maskL (fiL bs) (fiL e) ++ diffL (fiL bs) (fiL e) := by
  unfold putB
  rw [mask_eq, show List.range 6 = [0, 1, 2, 3, 4, 5] from rfl]
  simp only [List.flatMap_cons, List.flatMap_nil, diffB, mbit, fiL, maskL, diffL, fi, List.getD_cons_zero, List.getD_cons_succ, List.append_nil]

theorem maskL_len : ∀ (f g : List Int), f.length = g.length → (maskL f g).length = f.length
  | [], [], _ => rfl
  | a :: f, b :: g, h => by simp only [maskL, List.length_cons]; rw [maskL_len f g (by simpa using h)]
  | [], b :: g, h => by simp at h
  | a :: f, [], h => by simp at h

def ok64 (x : Int) : Prop := -9223372036854775808 ≤ x ∧ x ≤ 9223372036854775807
theorem wrap_ok (x : Int) : ok64 (wrap64 x) := w64r x

theorem takeGo_put : ∀ (f g : List Int) (tl : List Bool), f.length = g.length → (∀ x, x ∈ f → ok64 x) → (∀ x, x ∈ g → ok64 x) → takeGo (maskL f g) f (diffL f g ++ tl) = some (g, (diffL f g).length)
  | [], [], tl, _, _, _ => rfl
  | a :: f, b :: g, tl, h, hf, hg => by
    have ih := takeGo_put f g tl (by simpa using h) (fun x hx => hf x (List.mem_cons_of_mem _ hx)) (fun x hx => hg x (List.mem_cons_of_mem _ hx))
    have ha := hf a (by simp)
    have hb := hg b (by simp)
    by_cases hab : a = b
    · simp only [maskL, diffL, takeGo, hab, if_true, List.nil_append, ne_eq, not_true_eq_false, decide_false, Bool.false_eq_true, if_false]
      rw [ih]; rfl
    · have hd := diff_back a b ha hb
      have hz := zig_range (wrap64 (b - a)) (w64r _).1 (w64r _).2
      have h8 := (smallB_len (zig (wrap64 (b - a))).toNat).1
      have hr := readS_put (zig (wrap64 (b - a))).toNat 0 (diffL f g ++ tl) (by omega) (by rw [Nat.pow_zero]; omega) (fun h => by omega)
      simp only [maskL, diffL, takeGo, hab, if_false, ne_eq, not_false_eq_true, decide_true, if_true, List.append_assoc]
      rw [hr]
      simp only [unzig_zig]
      rw [if_neg (hd.2 hab), show 8 * ((smallB (zig (wrap64 (b - a))).toNat).length / 8) = (smallB (zig (wrap64 (b - a))).toNat).length by omega, List.drop_left, ih, Option.map_some, hd.1, List.length_append]
  | [], b :: g, _, h, _, _ => by simp at h
  | a :: f, [], _, h, _, _ => by simp at h

theorem unzig_ok {u : Nat} (h : u < 18446744073709551616) : ok64 (unzig u) := unzig_range u h
theorem back_diff {a d : Int} (ha : ok64 a) (hd : ok64 d) (h0 : d ≠ 0) : wrap64 (wrap64 (a + d) - a) = d ∧ a ≠ wrap64 (a + d) := by
  unfold ok64 at ha hd
  unfold wrap64
  constructor <;> omega

theorem takeGo_some : ∀ (mk : List Bool) (f : List Int) (l : List Bool) (g : List Int) (n : Nat), mk.length = f.length → (∀ x, x ∈ f → ok64 x) → takeGo mk f l = some (g, n) →
    g.length = f.length ∧ (∀ x, x ∈ g → ok64 x) ∧ maskL f g = mk ∧ n = (diffL f g).length ∧ l = diffL f g ++ l.drop n
  | [], [], l, g, n, _, _, h => by
    simp only [takeGo, Option.some.injEq, Prod.mk.injEq] at h
    obtain ⟨rfl, rfl⟩ := h
    simp [maskL, diffL]
  | b :: mk, a :: f, l, g, n, hl, hf, h => by
    have hf' : ∀ x, x ∈ f → ok64 x := fun x hx => hf x (List.mem_cons_of_mem _ hx)
    have ha := hf a (by simp)
    have hl' : mk.length = f.length := by simpa using hl
    simp only [takeGo] at h
    cases b with
    | false =>
      simp only [Bool.false_eq_true, if_false] at h
      obtain ⟨⟨g', n'⟩, hr, hp⟩ := Option.map_eq_some_iff.1 h
      simp only [Prod.mk.injEq] at hp
      obtain ⟨rfl, rfl⟩ := hp
      obtain ⟨q1, q2, q3, q4, q5⟩ := takeGo_some mk f l g' n' hl' hf' hr
      refine ⟨by simp [q1], ?_, by simp [maskL, q3], by simp [diffL, q4], by simpa [diffL] using q5⟩
      intro x hx
      rcases List.mem_cons.1 hx with rfl | hx
      · exact ha
      · exact q2 x hx
    | true =>
      simp only [if_true] at h
      split at h
      · cases h
      · rename_i u k hru
        split at h
        · cases h
        · rename_i h0
          obtain ⟨⟨g', n'⟩, hr, hp⟩ := Option.map_eq_some_iff.1 h
          simp only [Prod.mk.injEq] at hp
          obtain ⟨rfl, rfl⟩ := hp
          obtain ⟨r1, r2, r3, _⟩ := readS_some l.length l 0 u k (Nat.le_refl _) hru (by omega)
          rw [Nat.pow_zero, Nat.mul_one] at r3
          obtain ⟨q1, q2, q3, q4, q5⟩ := takeGo_some mk f _ g' n' hl' hf' hr
          obtain ⟨d1, d2⟩ := back_diff ha (unzig_ok r3) h0
          have hs : smallB (zig (wrap64 (wrap64 (a + unzig u) - a))).toNat = smallB u := by rw [d1, zig_unzig]; rfl
          refine ⟨by simp [q1], ?_, by simp [maskL, q3, d2], ?_, ?_⟩
          · intro x hx
            rcases List.mem_cons.1 hx with rfl | hx
            · exact wrap_ok _
            · exact q2 x hx
          · simp only [diffL]
            rw [if_neg d2, hs, List.length_append, r2, q4]
          · simp only [diffL]
            rw [if_neg d2, hs, List.append_assoc, ← List.drop_drop, ← q5]
            exact r1
  | [], a :: f, _, _, _, hl, _, _ => by simp at hl
  | b :: mk, [], _, _, _, hl, _, _ => by simp at hl

theorem fi_mem_ok {e : Enty} (h : e.wf) : ∀ x, x ∈ fiL e → ok64 x := by
  intro x hx
  unfold Enty.wf i64ok at h
  unfold ok64
  simp only [fiL, List.mem_cons, List.not_mem_nil, or_false] at hx
  rcases hx with rfl | rfl | rfl | rfl | rfl | rfl <;> omega

theorem with_fi (bs e : Enty) (h1 : bs.id = e.id) (h2 : bs.kind = e.kind) : withL bs (fiL e) = e := by
  obtain ⟨id, kind, x, y, vx, vy, hp, wt⟩ := e
  dsimp only at h1 h2
  subst h1 h2
  rfl
theorem fi_with (bs : Enty) (g : List Int) (h : g.length = 6) : fiL (withL bs g) = g := by
  match g, h with
  | [a, b, c, d, e, f], _ => rfl

theorem takeE_put (bs e : Enty) (tl : List Bool) (hwb : bs.wf) (hfe : EFrm e) (h1 : bs.id = e.id) (h2 : bs.kind = e.kind) : takeE bs (putB bs e ++ tl) = some (e, (putB bs e).length) := by
  have hm : (maskL (fiL bs) (fiL e)).length = 6 := maskL_len (fiL bs) (fiL e) rfl
  unfold takeE
  rw [putB_eq, if_neg (by simp only [List.length_append, hm]; omega), List.append_assoc, List.take_left' hm, List.drop_left' hm, takeGo_put (fiL bs) (fiL e) tl rfl (fi_mem_ok hwb) (fi_mem_ok (frm_wf hfe))]
  simp only [with_fi bs e h1 h2]
  rw [if_pos hfe, List.length_append, hm]

theorem takeE_some {bs e : Enty} {l : List Bool} {n : Nat} (hwb : bs.wf) (h : takeE bs l = some (e, n)) :
    EFrm e ∧ bs.id = e.id ∧ bs.kind = e.kind ∧ n = (putB bs e).length ∧ l = putB bs e ++ l.drop n := by
  unfold takeE at h
  split at h
  · cases h
  · rename_i h6
    split at h
    · cases h
    · rename_i f k hg
      split at h
      · rename_i hfe
        simp only [Option.some.injEq, Prod.mk.injEq] at h
        obtain ⟨rfl, rfl⟩ := h
        have ht : (l.take 6).length = 6 := by rw [List.length_take]; omega
        obtain ⟨q1, q2, q3, q4, q5⟩ := takeGo_some _ _ _ _ _ (by rw [ht]; rfl) (fi_mem_ok hwb) hg
        have hf := fi_with bs f q1
        refine ⟨hfe, rfl, rfl, ?_, ?_⟩
        · rw [putB_eq, hf, List.length_append, q3, ht, ← q4]
        · rw [putB_eq, hf, q3, List.append_assoc, ← List.drop_drop, ← q5, List.take_append_drop]
      · cases h

/-! ### What an entity stands on -/
theorem kind_of {a b : Enty} (ha : EFrm a) (hb : EFrm b) (h : a.id = b.id) : a.kind = b.kind := by
  have h1 := ha.1
  have h2 := hb.1
  unfold KindOk at h1 h2
  omega
theorem findAt_ge (id : Int) : ∀ (l : List Enty) (i : Nat), findAt id l (i : Int) = -1 ∨ (i : Int) ≤ findAt id l (i : Int)
  | [], i => .inl rfl
  | e :: l, i => by
    unfold findAt
    split
    · right; omega
    · have := findAt_ge id l (i + 1)
      rw [show ((i + 1 : Nat) : Int) = (i : Int) + 1 by omega] at this
      omega
theorem find_id {l : List Enty} {id : Int} {k : Nat} (hk : k < l.length) (h : find l id = (k : Int)) : (el l k).id = id := by
  have key : ∀ (l : List Enty) (i k : Nat), k < l.length → findAt id l (i : Int) = ((i + k : Nat) : Int) → (el l k).id = id := by
    intro l
    induction l with
    | nil => intro i k hk _; simp at hk
    | cons e l ih =>
      intro i k hk h
      unfold findAt at h
      by_cases he : e.id = id
      · rw [if_pos he] at h
        obtain rfl : k = 0 := by omega
        simpa [el] using he
      · rw [if_neg he] at h
        cases k with
        | zero =>
          exfalso
          have := findAt_ge id l (i + 1)
          rw [show ((i : Int) + 1) = ((i + 1 : Nat) : Int) by omega] at h
          omega
        | succ k =>
          have := ih (i + 1) k (by simpa using hk) (by rw [show ((i + 1 : Nat) : Int) = (i : Int) + 1 by omega, h]; congr 1; omega)
          simpa [el] using this
  exact key l 0 k hk (by unfold find at h; simpa using h)

theorem none_ok {id : Int} (h1 : 1 ≤ id) (h2 : id ≤ 16) : (none_ id).wf ∧ (none_ id).id = id ∧ KindOk (none_ id) := by
  unfold none_ Enty.wf i64ok KindOk
  dsimp only
  split
  · refine ⟨by omega, rfl, by omega⟩
  · refine ⟨by omega, rfl, by omega⟩
theorem on_ok {base : List Enty} (hb : IsList base) {id : Int} (h1 : 1 ≤ id) (h2 : id ≤ 16) : (onE base id).wf ∧ (onE base id).id = id ∧ KindOk (onE base id) := by
  unfold onE
  rcases find_cases base id with h | ⟨k, hk, h⟩
  · rw [if_pos h]; exact none_ok h1 h2
  · rw [if_neg (by omega), h, Int.toNat_natCast]
    have hf := (hb k hk).1
    exact ⟨frm_wf hf, find_id hk h, hf.1⟩
theorem kind_id {a b : Enty} (ha : KindOk a) (hb : KindOk b) (h : a.id = b.id) : a.kind = b.kind := by
  unfold KindOk at ha hb
  omega
theorem id_range {e : Enty} (h : EFrm e) : 1 ≤ e.id ∧ e.id ≤ 16 := by
  have := h.1
  unfold KindOk at this
  omega
theorem each_eq {base : List Enty} (hb : IsList base) {e : Enty} (he : EFrm e) : eachB base e = putB (onE base e.id) e := by
  obtain ⟨r1, r2⟩ := id_range he
  obtain ⟨h1, h2, h3⟩ := on_ok hb r1 r2
  unfold eachB okB
  rw [if_pos (decide_eq_true ⟨he, h2, kind_id h3 he.1 h2⟩)]

/-! ### The ids that a mask tells -/
def idsFrom : Int → List Bool → List Int
  | _, [] => []
  | a, b :: mk => if b = true then a :: idsFrom (a + 1) mk else idsFrom (a + 1) mk
def thereL : Int → Nat → List Int → List Bool
  | _, 0, _ => []
  | a, n + 1, xs => decide (a ∈ xs) :: thereL (a + 1) n xs

theorem ids_ge : ∀ (mk : List Bool) (a x : Int), x ∈ idsFrom a mk → a ≤ x ∧ x < a + mk.length
  | [], _, _, h => by simp [idsFrom] at h
  | b :: mk, a, x, h => by
    have ih := ids_ge mk (a + 1) x
    simp only [List.length_cons]
    simp only [idsFrom] at h
    split at h
    · rcases List.mem_cons.1 h with rfl | h
      · omega
      · have := ih h; omega
    · have := ih h; omega
theorem ids_sorted : ∀ (mk : List Bool) (a : Int), (idsFrom a mk).Pairwise (· < ·)
  | [], _ => by simp [idsFrom]
  | b :: mk, a => by
    simp only [idsFrom]
    split
    · refine List.pairwise_cons.2 ⟨fun x hx => ?_, ids_sorted mk (a + 1)⟩
      have := (ids_ge mk (a + 1) x hx).1
      omega
    · exact ids_sorted mk (a + 1)
theorem there_skip : ∀ (n : Nat) (a b : Int) (xs : List Int), b < a → thereL a n (b :: xs) = thereL a n xs
  | 0, _, _, _, _ => rfl
  | n + 1, a, b, xs, h => by
    simp only [thereL]
    rw [there_skip n (a + 1) b xs (by omega)]
    congr 1
    have : a ≠ b := by omega
    simp [this]
theorem there_ids : ∀ (mk : List Bool) (a : Int), thereL a mk.length (idsFrom a mk) = mk
  | [], _ => rfl
  | b :: mk, a => by
    have hn : a ∉ idsFrom (a + 1) mk := fun h => by have := (ids_ge mk (a + 1) a h).1; omega
    simp only [List.length_cons, thereL, idsFrom]
    cases b with
    | true => simp only [if_true]; rw [there_skip _ _ _ _ (by omega), there_ids mk (a + 1)]; simp
    | false => simp only [Bool.false_eq_true, if_false]; rw [there_ids mk (a + 1)]; simp [hn]
theorem ids_there : ∀ (n : Nat) (a : Int) (xs : List Int), xs.Pairwise (· < ·) → (∀ x, x ∈ xs → a ≤ x ∧ x < a + n) → idsFrom a (thereL a n xs) = xs
  | 0, a, xs, _, h => by
    cases xs with
    | nil => rfl
    | cons x xs => have := h x (by simp); omega
  | n + 1, a, xs, hs, h => by
    simp only [thereL, idsFrom]
    by_cases ha : a ∈ xs
    · rw [decide_eq_true ha, if_pos rfl]
      cases xs with
      | nil => simp at ha
      | cons x xs =>
        obtain ⟨hx, hs'⟩ := List.pairwise_cons.1 hs
        have hax : a = x := by
          rcases List.mem_cons.1 ha with h1 | h1
          · exact h1
          · have := hx a h1
            have := (h x (by simp)).1
            omega
        subst hax
        rw [there_skip n (a + 1) a xs (by omega), ids_there n (a + 1) xs hs' (fun y hy => by have h1 := hx y hy; have h2 := (h y (List.mem_cons_of_mem _ hy)).2; omega)]
    · rw [decide_eq_false ha, if_neg (by simp)]
      exact ids_there n (a + 1) xs hs (fun y hy => by
        have h1 := h y hy
        have : a ≠ y := fun e => ha (e ▸ hy)
        omega)

theorem find_mem (l : List Enty) (id : Int) : find l id = -1 ↔ id ∉ l.map Enty.id := by
  constructor
  · intro h hm
    obtain ⟨e, he, rfl⟩ := List.mem_map.1 hm
    have key : ∀ (l : List Enty) (i : Nat), e ∈ l → findAt e.id l (i : Int) ≠ -1 := by
      intro l
      induction l with
      | nil => intro i h; simp at h
      | cons d l ih =>
        intro i h
        unfold findAt
        split
        · omega
        · rename_i hd
          rcases List.mem_cons.1 h with rfl | h
          · exact absurd rfl hd
          · have := ih (i + 1) h
            rwa [show ((i + 1 : Nat) : Int) = (i : Int) + 1 by omega] at this
    exact key l 0 he (by simpa [find] using h)
  · intro h
    exact find_miss l id (fun j hj e => h (List.mem_map.2 ⟨el l j, el_mem l j hj, e⟩))
theorem thereB_one (l : List Enty) (i : Nat) : thereB l i = [decide (((i : Int) + 1) ∈ l.map Enty.id)] := by
  unfold thereB
  by_cases h : find l ((i : Int) + 1) = -1
  · have h2 := (find_mem l _).1 h
    rw [if_pos h, decide_eq_false h2]
    rfl
  · have h2 : ((i : Int) + 1) ∈ l.map Enty.id := Classical.byContradiction fun hn => h ((find_mem l _).2 hn)
    rw [if_neg h, decide_eq_true h2]
    rfl
theorem there_all (l : List Enty) : (List.range 16).flatMap (thereB l) = thereL 1 16 (l.map Enty.id) := by
  rw [show List.range 16 = [0, 1, 2, 3, 4, 5, 6, 7, 8, 9, 10, 11, 12, 13, 14, 15] from rfl]
  simp only [List.flatMap_cons, List.flatMap_nil, thereB_one, thereL, List.cons_append, List.nil_append]
  rfl

/-! ### Lists read -/
theorem isList_iff (l : List Enty) : IsList l ↔ (∀ e, e ∈ l → EFrm e) ∧ (l.map Enty.id).Pairwise (· < ·) := by
  constructor
  · intro h
    refine ⟨fun e he => ?_, ?_⟩
    · obtain ⟨j, hj, rfl⟩ := List.getElem_of_mem he
      have := (h j hj).1
      rw [← Option.some.inj ((el_get l j hj).symm.trans (List.getElem?_eq_getElem hj))]
      exact this
    · rw [List.pairwise_iff_getElem]
      intro i j hi hj hij
      rw [List.length_map] at hi hj
      have := list_lt l h j hj i hij
      rw [List.getElem_map, List.getElem_map]
      have e1 := Option.some.inj ((el_get l i hi).symm.trans (List.getElem?_eq_getElem hi))
      have e2 := Option.some.inj ((el_get l j hj).symm.trans (List.getElem?_eq_getElem hj))
      rw [← e1, ← e2]
      exact this
  · rintro ⟨h1, h2⟩ j hj
    refine ⟨h1 _ (el_mem l j hj), fun h0 => ?_⟩
    have := (List.pairwise_iff_getElem.1 h2) (j - 1) j (by rw [List.length_map]; omega) (by rw [List.length_map]; omega) (by omega)
    rw [List.getElem_map, List.getElem_map] at this
    have e1 := Option.some.inj ((el_get l (j - 1) (by omega)).symm.trans (List.getElem?_eq_getElem (by omega)))
    have e2 := Option.some.inj ((el_get l j hj).symm.trans (List.getElem?_eq_getElem hj))
    rw [e1, e2]
    exact this

def decL (base : List Enty) : List Int → List Bool → Option (List Enty × Nat)
  | [], _ => some ([], 0)
  | id :: ids, l =>
    match takeE (onE base id) l with
    | none => none
    | some (e, n) => (decL base ids (l.drop n)).map fun p => (e :: p.1, n + p.2)

theorem decL_put {base : List Enty} (hb : IsList base) : ∀ (m : List Enty) (tl : List Bool), (∀ e, e ∈ m → EFrm e) → decL base (m.map Enty.id) (m.flatMap (eachB base) ++ tl) = some (m, (m.flatMap (eachB base)).length)
  | [], tl, _ => rfl
  | e :: m, tl, h => by
    have he := h e (by simp)
    obtain ⟨r1, r2⟩ := id_range he
    obtain ⟨h1, h2, h3⟩ := on_ok hb r1 r2
    have ih := decL_put hb m tl (fun x hx => h x (List.mem_cons_of_mem _ hx))
    simp only [List.map_cons, List.flatMap_cons, decL, each_eq hb he, List.append_assoc]
    rw [takeE_put _ e _ h1 he h2 (kind_id h3 he.1 h2)]
    simp only [List.drop_left]
    rw [ih, Option.map_some, List.length_append]

theorem decL_some {base : List Enty} (hb : IsList base) : ∀ (ids : List Int) (l : List Bool) (m : List Enty) (n : Nat), (∀ x, x ∈ ids → 1 ≤ x ∧ x ≤ 16) → decL base ids l = some (m, n) →
    m.map Enty.id = ids ∧ (∀ e, e ∈ m → EFrm e) ∧ n = (m.flatMap (eachB base)).length ∧ l = m.flatMap (eachB base) ++ l.drop n
  | [], l, m, n, _, h => by
    simp only [decL, Option.some.injEq, Prod.mk.injEq] at h
    obtain ⟨rfl, rfl⟩ := h
    simp
  | id :: ids, l, m, n, hr, h => by
    simp only [decL] at h
    split at h
    · cases h
    · rename_i e k he
      obtain ⟨⟨m', n'⟩, hd, hp⟩ := Option.map_eq_some_iff.1 h
      simp only [Prod.mk.injEq] at hp
      obtain ⟨rfl, rfl⟩ := hp
      obtain ⟨r1, r2⟩ := hr id (by simp)
      obtain ⟨h1, h2, h3⟩ := on_ok hb r1 r2
      obtain ⟨q1, q2, q3, q4, q5⟩ := takeE_some h1 he
      obtain ⟨p1, p2, p3, p4⟩ := decL_some hb ids _ m' n' (fun x hx => hr x (List.mem_cons_of_mem _ hx)) hd
      have hid : e.id = id := q2.symm.trans h2
      refine ⟨by simp [p1, hid], ?_, ?_, ?_⟩
      · intro x hx
        rcases List.mem_cons.1 hx with rfl | hx
        · exact q1
        · exact p2 x hx
      · rw [List.flatMap_cons, List.length_append, each_eq hb q1, hid, ← q4, p3]
      · rw [List.flatMap_cons, each_eq hb q1, hid, List.append_assoc, ← List.drop_drop, ← p4]
        exact q5

/-- A list, read on a base, and how many bits it had. -/
def decP (base : List Enty) (l : List Bool) : Option (List Enty × Nat) :=
  if l.length < 16 then none else (decL base (idsFrom 1 (l.take 16)) (l.drop 16)).map fun p => (p.1, 16 + p.2)

theorem ids_ok {mk : List Bool} (h : mk.length ≤ 16) : ∀ x, x ∈ idsFrom 1 mk → 1 ≤ x ∧ x ≤ 16 := fun x hx => by
  have := ids_ge mk 1 x hx
  omega
theorem thereL_len : ∀ (n : Nat) (a : Int) (xs : List Int), (thereL a n xs).length = n
  | 0, _, _ => rfl
  | n + 1, a, xs => by simp only [thereL, List.length_cons]; rw [thereL_len n]

theorem decP_put {base m : List Enty} (hb : IsList base) (hm : IsList m) (tl : List Bool) : decP base (encB base m ++ tl) = some (m, (encB base m).length) := by
  obtain ⟨h1, h2⟩ := (isList_iff m).1 hm
  have hl : (thereL 1 16 (m.map Enty.id)).length = 16 := thereL_len _ _ _
  have hi := ids_there 16 1 (m.map Enty.id) h2 (fun x hx => by
    obtain ⟨e, he, rfl⟩ := List.mem_map.1 hx
    have := id_range (h1 e he)
    omega)
  unfold decP encB
  rw [there_all, if_neg (by simp only [List.length_append, hl]; omega), List.append_assoc, List.take_left' hl, List.drop_left' hl, hi, decL_put hb m tl h1, Option.map_some, List.length_append, hl]

theorem decP_some {base m : List Enty} (hb : IsList base) {l : List Bool} {n : Nat} (h : decP base l = some (m, n)) :
    IsList m ∧ n = (encB base m).length ∧ l = encB base m ++ l.drop n ∧ m.map Enty.id = idsFrom 1 (l.take 16) := by
  unfold decP at h
  split at h
  · cases h
  · rename_i h16
    obtain ⟨⟨m', n'⟩, hd, hp⟩ := Option.map_eq_some_iff.1 h
    simp only [Prod.mk.injEq] at hp
    obtain ⟨rfl, rfl⟩ := hp
    have ht : (l.take 16).length = 16 := by rw [List.length_take]; omega
    obtain ⟨p1, p2, p3, p4⟩ := decL_some hb _ _ m' n' (ids_ok (by omega)) hd
    have he : encB base m' = l.take 16 ++ m'.flatMap (eachB base) := by
      unfold encB
      rw [there_all, p1]
      have := there_ids (l.take 16) 1
      rw [ht] at this
      rw [this]
    refine ⟨(isList_iff m').2 ⟨p2, by rw [p1]; exact ids_sorted _ _⟩, by rw [he, List.length_append, ht, p3], ?_, p1⟩
    rw [he, List.append_assoc, ← List.drop_drop, ← p4, List.take_append_drop]

/-- What Decode gives of bytes; none: it refuses. -/
def dec (base : List Enty) (bs : List Int) : Option (List Enty) :=
  match decP base (bitsB bs) with
  | none => none
  | some (m, n) => if 8 * bs.length - n < 8 ∧ val ((bitsB bs).drop n) = 0 then some m else none

theorem bitsB_inj : ∀ (b c : List Int), (∀ x, x ∈ b → 0 ≤ x ∧ x < 256) → (∀ x, x ∈ c → 0 ≤ x ∧ x < 256) → bitsB b = bitsB c → b = c
  | [], [], _, _, _ => rfl
  | [], y :: c, _, _, h => by have := congrArg List.length h; simp [bitsB_length] at this
  | x :: b, [], _, _, h => by have := congrArg List.length h; simp [bitsB_length] at this
  | x :: b, y :: c, hb, hc, h => by
    have e1 : bitsB (x :: b) = bitsOf x 8 ++ bitsB b := by simp [bitsB]
    have e2 : bitsB (y :: c) = bitsOf y 8 ++ bitsB c := by simp [bitsB]
    rw [e1, e2] at h
    obtain ⟨h1, h2⟩ := List.append_inj h (by rw [bitsOf_length, bitsOf_length])
    have h3 := congrArg val h1
    have hx := hb x (by simp)
    have hy := hc y (by simp)
    rw [val_bitsOf _ _ hx.1, val_bitsOf _ _ hy.1, show (2 : Int) ^ 8 = 256 by decide] at h3
    rw [bitsB_inj b c (fun z hz => hb z (List.mem_cons_of_mem _ hz)) (fun z hz => hc z (List.mem_cons_of_mem _ hz)) h2]
    congr 1
    omega

theorem dec_enc {base m : List Enty} (hb : IsList base) (hm : IsList m) : dec base (pack (encB base m)) = some m := by
  have h := decP_put hb hm (List.replicate (8 * nby (encB base m) - (encB base m).length) false)
  rw [← bitsB_pack] at h
  unfold dec
  rw [h]
  simp only
  rw [if_pos]
  rw [bitsB_pack, List.drop_left, val_replicate, pack_length]
  refine ⟨?_, rfl⟩
  unfold nby
  omega

theorem all_false {l : List Bool} (h : ∀ b, b ∈ l → b = false) : l = List.replicate l.length false := List.eq_replicate_iff.2 ⟨rfl, h⟩

theorem dec_some {base m : List Enty} {bs : List Int} (hb : IsList base) (hbs : ∀ x, x ∈ bs → 0 ≤ x ∧ x < 256) (h : dec base bs = some m) :
    IsList m ∧ bs = pack (encB base m) ∧ m.map Enty.id = idsFrom 1 ((bitsB bs).take 16) := by
  unfold dec at h
  split at h
  · cases h
  · rename_i m' n hd
    split at h
    · rename_i hc
      simp only [Option.some.injEq] at h
      subst h
      obtain ⟨p1, p2, p3, p4⟩ := decP_some hb hd
      refine ⟨p1, ?_, p4⟩
      have hz := all_false ((val_zero _).1 hc.2)
      have hlen : ((bitsB bs).drop n).length = 8 * bs.length - n := by rw [List.length_drop, bitsB_length]
      have hle : n ≤ 8 * bs.length := by
        have := congrArg List.length p3
        rw [List.length_append, ← p2, hlen, bitsB_length] at this
        omega
      have hn : nby (encB base m') = bs.length := by unfold nby; rw [← p2]; omega
      refine bitsB_inj _ _ hbs (fun x hx => pack_byte _ x hx) ?_
      rw [bitsB_pack, hn, ← p2, ← hlen, ← hz]
      exact p3
    · cases h

theorem encB_len (base m : List Enty) : 16 ≤ (encB base m).length := by
  unfold encB
  rw [List.length_append, there_len]
  omega

/-- The last byte cut off. -/
theorem dec_cut {base m : List Enty} (hb : IsList base) (hm : IsList m) : dec base ((pack (encB base m)).dropLast) = none := by
  have hL := encB_len base m
  have hpl := pack_length (encB base m)
  have hne : pack (encB base m) ≠ [] := by intro e; rw [e] at hpl; simp at hpl; unfold nby at hpl; omega
  have hd := decP_put hb hm (List.replicate (8 * nby (encB base m) - (encB base m).length) false)
  rw [← bitsB_pack] at hd
  unfold dec
  split
  · rfl
  · rename_i m' n h
    exfalso
    obtain ⟨p1, p2, p3, p4⟩ := decP_some hb h
    have hcat : bitsB (pack (encB base m)) = bitsB (pack (encB base m)).dropLast ++ bitsB [(pack (encB base m)).getLast hne] := by
      have : bitsB ((pack (encB base m)).dropLast ++ [(pack (encB base m)).getLast hne]) = bitsB (pack (encB base m)).dropLast ++ bitsB [(pack (encB base m)).getLast hne] := by simp [bitsB]
      rw [← this, List.dropLast_concat_getLast]
    have h2 := decP_put hb p1 ((bitsB (pack (encB base m)).dropLast).drop n ++ bitsB [(pack (encB base m)).getLast hne])
    rw [← List.append_assoc, ← p3, ← hcat, hd] at h2
    simp only [Option.some.injEq, Prod.mk.injEq] at h2
    have hle : n ≤ (bitsB (pack (encB base m)).dropLast).length := by
      have := congrArg List.length p3
      rw [List.length_append, ← p2] at this
      omega
    rw [bitsB_length, List.length_dropLast, hpl, p2, ← h2.2] at hle
    unfold nby at hle
    omega

/-- One byte more. -/
theorem dec_more {base m : List Enty} (hb : IsList base) (hm : IsList m) (c : Int) : dec base (pack (encB base m) ++ [c]) = none := by
  have hL := encB_len base m
  have hcat : bitsB (pack (encB base m) ++ [c]) = encB base m ++ (List.replicate (8 * nby (encB base m) - (encB base m).length) false ++ bitsB [c]) := by
    rw [← List.append_assoc, ← bitsB_pack]
    simp [bitsB]
  have h := decP_put hb hm (List.replicate (8 * nby (encB base m) - (encB base m).length) false ++ bitsB [c])
  rw [← hcat] at h
  unfold dec
  rw [h]
  simp only
  rw [if_neg]
  rintro ⟨h1, _⟩
  rw [List.length_append, pack_length] at h1
  simp only [List.length_cons, List.length_nil] at h1
  unfold nby at h1
  omega

/-- A list on itself: sixteen bits, and six of each. -/
theorem self_enc {l : List Enty} (h : IsList l) : (encB l l).length = 16 + 6 * l.length := by
  have key : ∀ (m : List Enty), (∀ e, e ∈ m → eachB l e = putB e e) → (m.flatMap (eachB l)).length = 6 * m.length := by
    intro m
    induction m with
    | nil => intro _; rfl
    | cons e m ih =>
      intro hm
      have h6 : (putB e e).length = 6 := by
        rw [putB_eq]
        simp [maskL, diffL, fiL]
      rw [List.flatMap_cons, List.length_append, hm e (by simp), h6, ih (fun x hx => hm x (List.mem_cons_of_mem _ hx)), List.length_cons]
      omega
  unfold encB
  rw [List.length_append, there_len, key l]
  intro e he
  obtain ⟨j, hj, rfl⟩ := List.getElem_of_mem he
  have e1 := Option.some.inj ((el_get l j hj).symm.trans (List.getElem?_eq_getElem hj))
  rw [← e1, each_eq h (h j hj).1]
  unfold onE
  rw [find_at l h j hj, if_neg (by omega), Int.toNat_natCast]

end Go.Proofs.Ytfcncmhcmbghpaa.Ents
