/- Messages whose parts are fed one by one: what is answered; plain. -/
import Derived.Test.YtpnnalkihcemhaaFeedS
import Derived.Test.YtpnnalkihcemhaaReadS
set_option linter.unusedVariables false
set_option linter.unusedSimpArgs false
namespace Go.Proofs.Ytpnnalkihcemhaa.Frag
open Go.RowKit Go.Proofs.Ytpnnalkihcemhaa.Mem Go.Proofs.Ytpnnalkihcemhaa.Bits Go.Proofs.Ytpnnalkihcemhaa.Wr Go.Proofs.YtpnnalkihcemhaaW.PrintWords

theorem ok_parts {bs : List Int} (h : okPart bs = true) : 4 ≤ bs.length ∧ bs.length ≤ 303 ∧ (headOf bs).at_ < (headOf bs).n ∧ (headOf bs).n ≤ 14 := by
  unfold okPart at h
  simp only [Bool.and_eq_true, decide_eq_true_eq] at h
  exact ⟨h.1.1.1.1, h.1.1.1.2, h.1.1.2, h.1.2⟩

theorem not_any {ps : List (Int × List Int)} {x : Int} (h : ¬ (ps.any fun p => p.1 == x) = true) : x ∉ ps.map (·.1) := by
  intro hm
  obtain ⟨p, hp, he⟩ := List.mem_map.1 hm
  exact h (List.any_eq_true.2 ⟨p, hp, beq_iff_eq.2 he⟩)
theorem feedAt_ok {l : List Msg} {k : Nat} {m : Msg} {bs : List Int} (hl : AllOk l) (hm : MsgOk' m) (hok : okPart bs = true) : AllOk (feedAt l k m (headOf bs) (bs.drop 3)).1 := by
  obtain ⟨o1, o2, o3, o4⟩ := ok_parts hok
  unfold feedAt
  split
  · exact hl
  · rename_i hany
    split
    · rename_i hlt
      refine ⟨by rw [List.length_set]; exact hl.1, fun x hx => ?_⟩
      rcases List.mem_or_eq_of_mem_set hx with hx | rfl
      · exact hl.2 x hx
      · refine ⟨by simp only [List.length_append, List.length_cons, List.length_nil]; omega, hm.n0, hm.n14, ?_, ?_⟩
        · intro p hp
          rcases List.mem_append.1 hp with hp | hp
          · exact hm.short p hp
          · rw [List.mem_singleton] at hp
            subst hp
            simp only [List.length_drop]
            omega
        · simp only [List.map_append, List.map_cons, List.map_nil, List.nodup_append]
          refine ⟨hm.keys, by simp, fun x hx y hy => ?_⟩
          simp only [List.mem_singleton] at hy
          subst hy
          rintro rfl
          exact not_any hany hx
    · exact ⟨Nat.le_trans (List.length_eraseIdx_le _ _) hl.1, fun x hx => hl.2 x (List.mem_of_mem_eraseIdx hx)⟩
theorem new_ok {bs : List Int} (hok : okPart bs = true) : MsgOk' ⟨(headOf bs).id, (headOf bs).n, []⟩ := by
  obtain ⟨o1, o2, o3, o4⟩ := ok_parts hok
  exact ⟨by simp, by simp only; omega, by simp only; omega, by simp, by simp⟩
theorem roomed_ok {l : List Msg} (hl : AllOk l) : (roomed l).length < 4 ∧ ∀ m ∈ roomed l, MsgOk' m := by
  unfold roomed
  have := hl.1
  split
  · rename_i h4
    exact ⟨by rw [List.length_drop, h4]; decide, fun m hm => hl.2 m (List.mem_of_mem_drop hm)⟩
  · exact ⟨by omega, hl.2⟩
theorem feedA_ok {l : List Msg} {bs : List Int} (hl : AllOk l) : AllOk (feedA l bs).1 := by
  unfold feedA
  split
  · exact hl
  · rename_i hok
    have hok : okPart bs = true := by
      cases h : okPart bs
      · exact absurd h hok
      · rfl
    split
    · rename_i k hk
      rw [List.findIdx?_eq_some_iff_getElem] at hk
      obtain ⟨hlt, _⟩ := hk
      refine feedAt_ok hl ?_ hok
      rw [List.getD_eq_getElem?_getD, List.getElem?_eq_getElem hlt]
      exact hl.2 _ (List.getElem_mem hlt)
    · obtain ⟨r1, r2⟩ := roomed_ok hl
      refine feedAt_ok ⟨?_, fun m hm => ?_⟩ (new_ok hok) hok
      · rw [List.length_append]; simp only [List.length_cons, List.length_nil]; omega
      · rcases List.mem_append.1 hm with hm | hm
        · exact r2 m hm
        · rw [List.mem_singleton] at hm
          subst hm
          exact new_ok hok

/-- A part of a message that waits. -/
theorem feedA_split {bs : List Int} {l1 l2 : List Msg} {m : Msg} (hok : okPart bs = true) (h1 : ∀ x ∈ l1, isMsg (headOf bs) x = false) (hm : isMsg (headOf bs) m = true) :
    feedA (l1 ++ m :: l2) bs = if (m.ps.any fun p => p.1 == ((headOf bs).at_ : Int)) then (l1 ++ m :: l2, ⟨none, 8⟩) else if m.ps.length + 1 < (headOf bs).n then (l1 ++ ⟨m.id, m.n, m.ps ++ [(((headOf bs).at_ : Int), bs.drop 3)]⟩ :: l2, ⟨none, 0⟩)
      else (l1 ++ l2, ⟨some (joined (m.ps ++ [(((headOf bs).at_ : Int), bs.drop 3)]) (headOf bs).n), 0⟩) := by
  have hf : (l1 ++ m :: l2).findIdx? (isMsg (headOf bs)) = some l1.length := by
    rw [List.findIdx?_append, List.findIdx?_eq_none_iff.2 h1, List.findIdx?_cons, hm]
    simp
  unfold feedA
  rw [if_neg (by rw [hok]; decide), hf]
  simp only
  have hg : (l1 ++ m :: l2).getD l1.length ⟨0, 0, []⟩ = m := by simp [List.getD_eq_getElem?_getD]
  rw [hg]
  unfold feedAt
  split
  · rfl
  · split
    · simp
    · simp [List.eraseIdx_append_of_length_le]
/-- A part of a message of which none came. -/
theorem feedA_new {bs : List Int} {l : List Msg} (hok : okPart bs = true) (h1 : ∀ x ∈ l, isMsg (headOf bs) x = false) :
    feedA l bs = if 1 < (headOf bs).n then (roomed l ++ [⟨(headOf bs).id, (headOf bs).n, [(((headOf bs).at_ : Int), bs.drop 3)]⟩], ⟨none, 0⟩) else (roomed l, ⟨some (joined [(((headOf bs).at_ : Int), bs.drop 3)] (headOf bs).n), 0⟩) := by
  unfold feedA
  rw [if_neg (by rw [hok]; decide), List.findIdx?_eq_none_iff.2 h1]
  simp only
  unfold feedAt
  simp [List.eraseIdx_append_of_length_le]

/-- A message's bytes in order. -/
def chunk (bs : List Int) (j : Nat) : List Int := (bs.drop (300 * j)).take 300
theorem chunks_take (bs : List Int) (k : Nat) : (List.range k).flatMap (chunk bs) = bs.take (300 * k) := by
  induction k with
  | zero => simp
  | succ k ih =>
    rw [List.range_succ, List.flatMap_append, ih]
    simp only [List.flatMap_cons, List.flatMap_nil, List.append_nil, chunk]
    rw [← List.take_add]
    rfl
theorem chunks_all (bs : List Int) : (List.range (cnt bs.length)).flatMap (chunk bs) = bs := by
  rw [chunks_take, List.take_of_length_le]
  unfold cnt
  omega

structure Snt where
  id : Int
  bs : List Int
def Snt.n (x : Snt) : Nat := cnt x.bs.length
structure Snt.ok (x : Snt) : Prop where
  i0 : 0 ≤ x.id
  i1 : x.id < 65536
  e : errS x.bs = 0
def Snt.msg (x : Snt) (f : List Nat) : Msg := ⟨x.id, x.n, f.map fun (j : Nat) => ((j : Int), chunk x.bs j)⟩
theorem Snt.n14 {x : Snt} (h : x.ok) : 0 < x.n ∧ x.n ≤ 14 := by
  have := errS_zero h.e
  unfold Snt.n cnt
  omega

theorem part_head {x : Snt} {j : Nat} (h : x.ok) (hj : j < x.n) : headOf (part x.id x.bs j) = ⟨x.id.toNat, x.n, j⟩ ∧ (part x.id x.bs j).drop 3 = chunk x.bs j ∧ okPart (part x.id x.bs j) = true := by
  have hn := Snt.n14 h
  have hpl : (pack (headB x.id x.n j)).length = 3 := by rw [pack_length]; unfold nby; rw [headB_length]
  have hp : part x.id x.bs j = pack (headB x.id x.n j) ++ chunk x.bs j := rfl
  have hb : bitsH (part x.id x.bs j) = headB x.id x.n j := by
    unfold bitsH
    rw [hp, List.take_append_of_le_length (by omega), List.take_of_length_le (by omega), bitsB_pack]
    rw [show 8 * nby (headB x.id x.n j) - (headB x.id x.n j).length = 0 by unfold nby; rw [headB_length]]
    simp
  have h1 : (headB x.id x.n j).take 16 = bitsOf x.id 16 := by
    unfold headB
    rw [List.append_assoc, List.take_append_of_le_length (by rw [bitsOf_length]; decide), List.take_of_length_le (by rw [bitsOf_length]; decide)]
  have h2 : ((headB x.id x.n j).drop 16).take 4 = bitsOf ((x.n : Int) - 1) 4 := by
    unfold headB
    rw [List.append_assoc, List.drop_append_of_le_length (by rw [bitsOf_length]; decide), List.drop_of_length_le (by rw [bitsOf_length]; decide), List.nil_append, List.take_append_of_le_length (by rw [bitsOf_length]; decide), List.take_of_length_le (by rw [bitsOf_length]; decide)]
  have h3 : ((headB x.id x.n j).drop 20).take 4 = bitsOf (j : Int) 4 := by
    unfold headB
    rw [List.drop_append_of_le_length (by rw [List.length_append, bitsOf_length, bitsOf_length]; decide), List.drop_of_length_le (by rw [List.length_append, bitsOf_length, bitsOf_length]; decide), List.nil_append, List.take_of_length_le (by rw [bitsOf_length]; decide)]
  have hh : headOf (part x.id x.bs j) = ⟨x.id.toNat, x.n, j⟩ := by
    unfold headOf
    rw [hb, h1, h2, h3, val_bitsOf _ _ h.i0, val_bitsOf _ _ (by omega), val_bitsOf _ _ (by omega)]
    have e16 : x.id % 2 ^ 16 = x.id := by have := h.i1; have := h.i0; omega
    have e4 : ((x.n : Int) - 1) % 2 ^ 4 = (x.n : Int) - 1 := by omega
    have e4' : (j : Int) % 2 ^ 4 = (j : Int) := by omega
    rw [e16, e4, e4']
    congr 1
    omega
  refine ⟨hh, ?_, ?_⟩
  · rw [hp, List.drop_append_of_le_length (by omega), List.drop_of_length_le (by omega), List.nil_append]
  · have hl := part_length x.id x.bs j
    have hj' : j < cnt x.bs.length := hj
    have c1 := cnt_lt hj'
    unfold okPart
    rw [hh, hl]
    simp only [Bool.and_eq_true, Bool.or_eq_true, decide_eq_true_eq]
    refine ⟨⟨⟨⟨by omega, by omega⟩, hj⟩, hn.2⟩, ?_⟩
    by_cases h : j + 1 = x.n
    · exact .inl h
    · have : j + 1 < cnt x.bs.length := by unfold Snt.n at h hj; omega
      have := cnt_next this
      exact .inr (by omega)

theorem bound_length : ∀ (n : Nat) (l : List Nat), l.Nodup → (∀ x ∈ l, x < n) → l.length ≤ n := by
  intro n
  induction n with
  | zero =>
    intro l _ h
    cases l with
    | nil => simp
    | cons x l => exact absurd (h x (by simp)) (Nat.not_lt_zero _)
  | succ n ih =>
    intro l hd h
    have h1 := ih (l.erase n) (hd.erase n) (fun x hx => by
      have h2 := h x (List.mem_of_mem_erase hx)
      have h3 : x ≠ n := by
        rintro rfl
        exact (List.Nodup.not_mem_erase hd) hx
      omega)
    have h2 : l.length ≤ (l.erase n).length + 1 := by
      by_cases hn : n ∈ l
      · rw [List.length_erase_of_mem hn]; omega
      · rw [List.erase_of_not_mem hn]; omega
    omega
theorem full_mem {n : Nat} {l : List Nat} (hd : l.Nodup) (h : ∀ x ∈ l, x < n) (hl : l.length = n) {i : Nat} (hi : i < n) : i ∈ l := by
  apply Classical.byContradiction
  intro hni
  have := bound_length n (i :: l) (List.nodup_cons.2 ⟨hni, hd⟩) (fun x hx => by
    rcases List.mem_cons.1 hx with rfl | hx
    · exact hi
    · exact h x hx)
  simp only [List.length_cons] at this
  omega
theorem find_chunk {bs : List Int} {f : List Nat} {i : Nat} (h : i ∈ f) : ((f.map fun (j : Nat) => ((j : Int), chunk bs j)).find? fun p => p.1 == (i : Int)) = some ((i : Int), chunk bs i) := by
  induction f with
  | nil => cases h
  | cons j f ih =>
    rw [List.map_cons, List.find?_cons]
    by_cases he : j = i
    · subst he
      simp
    · have : (((j : Nat) : Int) == (i : Int)) = false := beq_eq_false_iff_ne.2 (fun e => he (Int.ofNat.inj e))
      simp only [this]
      exact ih (by
        rcases List.mem_cons.1 h with rfl | h
        · exact absurd rfl he
        · exact h)
theorem flatMap_same {α β : Type} {l : List α} {f g : α → List β} (h : ∀ x ∈ l, f x = g x) : l.flatMap f = l.flatMap g := by
  induction l with
  | nil => rfl
  | cons x l ih => rw [List.flatMap_cons, List.flatMap_cons, h x (by simp), ih (fun y hy => h y (List.mem_cons_of_mem _ hy))]
theorem joined_all {bs : List Int} {f : List Nat} (hd : f.Nodup) (h : ∀ x ∈ f, x < cnt bs.length) (hl : f.length = cnt bs.length) : joined (f.map fun (j : Nat) => ((j : Int), chunk bs j)) (cnt bs.length) = bs := by
  unfold joined
  rw [flatMap_same (g := chunk bs) (fun i hi => by
    rw [find_chunk (full_mem hd h hl (List.mem_range.1 hi))]
    rfl)]
  exact chunks_all bs

/-- Is it the message's? -/
theorem isMsg_snt {x y : Snt} {j : Nat} (h : x.ok) (hj : j < x.n) (f : List Nat) : isMsg (headOf (part x.id x.bs j)) (y.msg f) = (decide (y.id = x.id) && decide (y.n = x.n)) := by
  rw [(part_head h hj).1]
  unfold isMsg isM Snt.msg
  simp only
  rw [Int.toNat_of_nonneg h.i0]
  rw [Bool.eq_iff_iff]
  simp
  omega
theorem any_snt {x : Snt} {f : List Nat} {j : Nat} : ((x.msg f).ps.any fun p => p.1 == (j : Int)) = decide (j ∈ f) := by
  rw [Bool.eq_iff_iff, List.any_eq_true, decide_eq_true_eq]
  constructor
  · rintro ⟨p, hp, he⟩
    obtain ⟨i, hi, rfl⟩ := List.mem_map.1 hp
    have : i = j := Int.ofNat.inj (beq_iff_eq.1 he)
    rw [← this]
    exact hi
  · intro h
    exact ⟨_, List.mem_map.2 ⟨j, h, rfl⟩, by simp⟩

/-- A part of a message some of whose parts came, but not this one. -/
theorem feed_next {x : Snt} {f : List Nat} {j : Nat} {l1 l2 : List Msg} (h : x.ok) (hj : j < x.n) (hf : j ∉ f) (hd : f.Nodup) (hlt : ∀ i ∈ f, i < x.n) (hl : f.length < x.n) (h1 : ∀ m ∈ l1, isMsg (headOf (part x.id x.bs j)) m = false) :
    feedA (l1 ++ x.msg f :: l2) (part x.id x.bs j) = if f.length + 1 < x.n then (l1 ++ x.msg (f ++ [j]) :: l2, ⟨none, 0⟩) else (l1 ++ l2, ⟨some x.bs, 0⟩) := by
  have hp := part_head h hj
  have hm : isMsg (headOf (part x.id x.bs j)) (x.msg f) = true := by rw [isMsg_snt h hj]; simp
  rw [feedA_split hp.2.2 h1 hm, hp.1, hp.2.1]
  simp only
  rw [if_neg (by rw [any_snt]; simpa using hf)]
  have e1 : (x.msg f).ps.length = f.length := by simp [Snt.msg]
  rw [e1]
  by_cases hlt2 : f.length + 1 < x.n
  · rw [if_pos hlt2, if_pos hlt2]
    simp [Snt.msg]
  · rw [if_neg hlt2, if_neg hlt2]
    have e2 : (x.msg f).ps ++ [((j : Int), chunk x.bs j)] = (f ++ [j]).map fun (j : Nat) => ((j : Int), chunk x.bs j) := by simp [Snt.msg]
    rw [e2]
    have hd2 : (f ++ [j]).Nodup := List.nodup_append.2 ⟨hd, by simp, fun a ha b hb => by
      rw [List.mem_singleton] at hb
      subst hb
      rintro rfl
      exact hf ha⟩
    have := joined_all (bs := x.bs) (f := f ++ [j]) hd2 (fun i hi => by
      rcases List.mem_append.1 hi with hi | hi
      · exact hlt i hi
      · rw [List.mem_singleton] at hi
        subst hi
        exact hj) (by rw [List.length_append]; unfold Snt.n at hlt2 hl; simp only [List.length_cons, List.length_nil]; omega)
    rw [show x.n = cnt x.bs.length from rfl, this]
/-- A part that came. -/
theorem feed_again {x : Snt} {f : List Nat} {j : Nat} {l1 l2 : List Msg} (h : x.ok) (hj : j < x.n) (hf : j ∈ f) (h1 : ∀ m ∈ l1, isMsg (headOf (part x.id x.bs j)) m = false) :
    feedA (l1 ++ x.msg f :: l2) (part x.id x.bs j) = (l1 ++ x.msg f :: l2, ⟨none, 8⟩) := by
  have hp := part_head h hj
  have hm : isMsg (headOf (part x.id x.bs j)) (x.msg f) = true := by rw [isMsg_snt h hj]; simp
  rw [feedA_split hp.2.2 h1 hm, hp.1]
  simp only
  rw [if_pos (by rw [any_snt]; simpa using hf)]
/-- A message's first part. -/
theorem feed_first {x : Snt} {j : Nat} {l : List Msg} (h : x.ok) (hj : j < x.n) (h1 : ∀ m ∈ l, isMsg (headOf (part x.id x.bs j)) m = false) (hl : l.length < 4) :
    feedA l (part x.id x.bs j) = if 1 < x.n then (l ++ [x.msg [j]], ⟨none, 0⟩) else (l, ⟨some x.bs, 0⟩) := by
  have hp := part_head h hj
  have hr : roomed l = l := by unfold roomed; rw [if_neg (by omega)]
  rw [feedA_new hp.2.2 h1, hp.1, hp.2.1, hr]
  simp only
  by_cases h2 : 1 < x.n
  · rw [if_pos h2, if_pos h2]
    simp [Snt.msg, Int.toNat_of_nonneg h.i0]
  · rw [if_neg h2, if_neg h2]
    have hj0 : j = 0 := by omega
    have hn1 : x.n = 1 := by have := Snt.n14 h; omega
    subst hj0
    have := joined_all (bs := x.bs) (f := [0]) (by simp) (fun i hi => by rw [List.mem_singleton] at hi; subst hi; exact hj) hn1.symm
    simp only [List.map_cons, List.map_nil] at this
    rw [show x.n = cnt x.bs.length from rfl, this]

end Go.Proofs.Ytpnnalkihcemhaa.Frag
