/- An assembler takes a part; by the program. -/
import Derived.Test.YtpnnalkihcemhaaFeedS
import Derived.Test.YtpnnalkihcemhaaMix2
import Derived.Deep.CutRange
import Derived.Laws.AppendOwnNone
set_option linter.unusedVariables false
set_option linter.unusedSimpArgs false
namespace Go.Proofs.Ytpnnalkihcemhaa.Frag
open Go.Sort Go.RowKit Go.Deep Go.Proofs.Ytpnnalkihcemhaa.Mem Go.Proofs.Ytpnnalkihcemhaa.Open Go.Proofs.Ytpnnalkihcemhaa.Num Go.Proofs.Ytpnnalkihcemhaa.Wr Go.Proofs.Ytpnnalkihcemhaa.Bits Go.Proofs.Ytpnnalkihcemhaa.Step Go.Proofs.YtpnnalkihcemhaaW.PrintWords

theorem wpList_min {P : Program} {w : World} {ops : Array Oper} {rest : List Oper} {o : Oper} {a : Act} {Q : Exit → Act → World → Prop} (hgd : o.guard = none) (s x : Operand) (ts : Array TypeId)
    (ho : o.op = .call { callee := .builtin .min, args := #[s, x], argTypes := ts }) (p q r : Int) (hs : a.eval s = .int .i64 p) (hx : a.eval x = .int .i64 q) (hr : (if q < p then q else p) = r)
    (h : wpList P ops Q rest (a.put o.dst (.int .i64 r)) w) : wpList P ops Q (o :: rest) a w := by
  refine wpList_plain hgd fun K hK => ?_
  unfold Oper.wp execOp
  simp only [ho, resolve, invoke, builtin, Sem.run_bind, Sem.run_pure, Result.andThen_ok, List.map_toArray, List.map_cons, List.map_nil, hs, hx, run_min_int2, hr]
  exact hK _ _ h
theorem idx_val {id n : Int} {L : List ((Int × Int) × Nat)} {e' : Ending} (h : (∃ (k : Nat) (hk : k < L.length), e' = .returned (.int .i64 (k : Int)) ∧ (∀ j (hj : j < L.length), j < k → isM id n L[j].1 = false) ∧ isM id n L[k].1 = true) ∨ (e' = .returned (.int .i64 (-1)) ∧ ∀ j (hj : j < L.length), isM id n L[j].1 = false)) :
    ∃ kv : Int, e' = .returned (.int .i64 kv) ∧ ((∃ (k : Nat) (hk : k < L.length), kv = (k : Int) ∧ (∀ j (hj : j < L.length), j < k → isM id n L[j].1 = false) ∧ isM id n L[k].1 = true) ∨ (kv = -1 ∧ ∀ j (hj : j < L.length), isM id n L[j].1 = false)) := by
  rcases h with ⟨k, hk, rfl, h1, h2⟩ | ⟨rfl, h⟩
  · exact ⟨_, rfl, .inl ⟨k, hk, rfl, h1, h2⟩⟩
  · exact ⟨_, rfl, .inr ⟨rfl, h⟩⟩
theorem fl_false {bs : List Int} {x1 x2 x3 : Nat} {fl : Bool} (h : okPart bs = true) (hd : Head bs x1 x2 x3 fl) : fl = false := by
  cases fl with
  | false => rfl
  | true =>
    have := hd.bad rfl
    unfold okPart at h
    rw [decide_eq_false (by omega)] at h
    cases h
/-- The message k of L1 is the one that the part is of; what is answered is what feedAt says of it. -/
structure Placed (bs : List Int) (l : List Msg) (L1 : List MM) (k nn : Nat) : Prop where
  lt : k < L1.length
  feed : feedA l bs = feedAt (L1.map MM.abs) k (L1[k].abs) (headOf bs) (bs.drop 3)
  ok : AllOk (L1.map MM.abs)
  n_is : L1[k].n = (nn : Int)
theorem findIdx_of {p : Msg → Bool} {l : List Msg} {k : Nat} (hk : k < l.length) (hno : ∀ j (hj : j < l.length), j < k → p l[j] = false) (hyes : p l[k] = true) : l.findIdx? p = some k := by
  rw [List.findIdx?_eq_some_iff_getElem]
  exact ⟨hk, hyes, fun j hj => by rw [hno j (by omega) hj]; decide⟩
theorem placed_old {bs : List Int} {L : List MM} {x1 x2 x3 k nn : Nat} (hall : AllOk (L.map MM.abs)) (hok : okPart bs = true) (hh : headOf bs = ⟨x1, x2 + 1, x3⟩) (hnn : nn = x2 + 1) (hk : k < (L.map MM.key).length)
    (hno : ∀ j (hj : j < (L.map MM.key).length), j < k → isM (x1 : Int) (nn : Int) (L.map MM.key)[j].1 = false) (hyes : isM (x1 : Int) (nn : Int) (L.map MM.key)[k].1 = true) : Placed bs (L.map MM.abs) L k nn := by
  have hk2 : k < L.length := by rwa [List.length_map] at hk
  have hfi : (L.map MM.abs).findIdx? (isMsg (headOf bs)) = some k := by
    refine findIdx_of (by rw [List.length_map]; exact hk2) (fun j hj hjk => ?_) ?_
    · have := hno j (by rw [List.length_map]; rwa [List.length_map] at hj) hjk
      rw [List.getElem_map] at this ⊢
      unfold isMsg
      rw [hh]
      show isM (x1 : Int) ((x2 + 1 : Nat) : Int) _ = false
      rw [← hnn]
      exact this
    · rw [List.getElem_map] at hyes ⊢
      unfold isMsg
      rw [hh]
      show isM (x1 : Int) ((x2 + 1 : Nat) : Int) _ = true
      rw [← hnn]
      exact hyes
  refine ⟨hk2, ?_, hall, ?_⟩
  · unfold feedA
    rw [if_neg (by rw [hok]; decide), hfi]
    simp only
    congr 1
    rw [List.getD_eq_getElem?_getD, List.getElem?_map, List.getElem?_eq_getElem hk2]
    rfl
  · rw [List.getElem_map] at hyes
    unfold isM MM.key at hyes
    simp only [Bool.and_eq_true, beq_iff_eq] at hyes
    exact hyes.2
theorem Holds.lessMid {W w : World} {B : Nat} {F : List Ent} (pre : List Ent) {M M' : List Ent} (h : Holds W B w (pre ++ (M ++ F))) (hs : M'.Sublist M) : Holds W B w (pre ++ (M' ++ F)) := by
  have hsub : (pre ++ (M' ++ F)).Sublist (pre ++ (M ++ F)) := (hs.append (List.Sublist.refl F)).append_left pre
  exact ⟨h.below, h.size, fun e he => h.each e (hsub.subset he), h.nodup.sublist (hsub.filterMap Ent.key)⟩
theorem erase_first (L : List MM) (h : L.length = 4) : (L.drop 1).map MM.abs = roomed (L.map MM.abs) ∧ L.length - 1 = (L.drop 1).length ∧ rows3 ((((L.map MM.key).map mcells)).eraseIdx 0) = mrows (L.drop 1) ∧ ((L.drop 1).flatMap MM.ents).Sublist (L.flatMap MM.ents) := by
  refine ⟨?_, by rw [List.length_drop], ?_, ?_⟩
  · unfold roomed
    rw [if_pos (by rw [List.length_map]; exact h), List.map_drop]
  · unfold mrows
    cases L with
    | nil => rfl
    | cons x L => simp [List.eraseIdx]
  · cases L with
    | nil => simp
    | cons x L => simp only [List.drop_succ_cons, List.drop_zero, List.flatMap_cons]; exact List.sublist_append_right _ _
theorem Holds.permMid {W w : World} {B : Nat} {F : List Ent} (pre : List Ent) {M M' : List Ent} (h : Holds W B w (pre ++ (M ++ F))) (hp : M.Perm M') : Holds W B w (pre ++ (M' ++ F)) := by
  have hq : (pre ++ (M ++ F)).Perm (pre ++ (M' ++ F)) := (hp.append_right F).append_left pre
  exact ⟨h.below, h.size, fun e he => h.each e (hq.mem_iff.2 he), (hq.filterMap Ent.key).nodup_iff.1 h.nodup⟩
theorem mrows_snoc (L : List MM) (x : MM) : mrows (L ++ [x]) = mrows L ++ mcells x.key := by
  unfold mrows rows3
  simp
theorem Holds.sub {W w : World} {B : Nat} {M H : List Ent} (h : Holds W B w H) (hs : M.Sublist H) : Holds W B w M := ⟨h.below, h.size, fun e he => h.each e (hs.subset he), h.nodup.sublist (hs.filterMap Ent.key)⟩
theorem AS.frame {W w : World} {B a : Nat} {L : List MM} {F : List Ent} (h : AS W B w a L F) : Holds W B w F := by
  obtain ⟨_, v, h⟩ := h
  exact Holds.sub h (.cons _ (.cons _ (List.sublist_append_right _ _)))
theorem rd_drop {w : World} {A : Option Addr} {n c : Nat} {bs : List Int} (h : Rd w (.slice A n c) n (nums .u8 bs)) (hl : bs.length = n) (h3 : 3 ≤ n) :
    Rd w (.slice (if c = 3 then A else Option.map (fun x => { block := x.block, off := x.off + 3 }) A) (n - 3) (c - 3)) (n - 3) (nums .u8 (bs.drop 3)) := by
  rcases h with ⟨h1, h2, h3'⟩ | ⟨ad, c', h1, h2, h3', hr⟩
  · omega
  · simp only [Value.slice.injEq] at h1
    obtain ⟨rfl, _, rfl⟩ := h1
    by_cases hc : c = 3
    · rw [if_pos hc]
      refine .inr ⟨ad, c - 3, rfl, by omega, by omega, fun j u hu => ?_⟩
      have : (bs.drop 3) = [] := List.drop_eq_nil_of_le (by omega)
      rw [this] at hu
      simp [nums] at hu
    · rw [if_neg hc]
      refine .inr ⟨ad.add 3, c - 3, rfl, by omega, by omega, fun j u hu => ?_⟩
      have e : (ad.add 3).add j = ad.add (3 + j) := by unfold Addr.add; split <;> simp_all [Nat.add_assoc]
      rw [e]
      refine hr (3 + j) u ?_
      simp only [nums, List.getElem?_map, List.getElem?_drop] at hu ⊢
      exact hu
theorem ok_four {bs : List Int} (h : okPart bs = true) : 4 ≤ bs.length ∧ bs.length ≤ 303 := by
  unfold okPart at h
  simp only [Bool.and_eq_true, decide_eq_true_eq] at h
  exact h.1.1.1
theorem three_of {n : Nat} (h : 4 ≤ n) : (3 : Int) ≤ (n : Int) ∧ 3 ≤ n := by omega
theorem few_ps {xi xn : Int} {mb : Nat} {ob : Obj} {ps : List (Int × Value × List Int)} (h : MsgOk' (MM.abs ⟨xi, xn, mb, ob, ps⟩)) : ps.length ≤ 14 ∧ (ps.map fun p => (p.1, p.2.1)).length < maxLen := by
  have := h.few
  simp only [MM.abs, List.length_map] at this
  rw [List.length_map]
  unfold maxLen
  omega
theorem set_split (L : List MM) (k : Nat) (h : k < L.length) (x : MM) : (L.set k x).flatMap MM.ents = (L.take k).flatMap MM.ents ++ (x.ents ++ (L.drop (k + 1)).flatMap MM.ents) := by
  rw [List.set_eq_take_append_cons_drop, if_pos h, List.flatMap_append, List.flatMap_cons]
theorem mrows_set (L : List MM) (k : Nat) (x y : MM) (h : L[k]? = some y) (hk : x.key = y.key) : mrows (L.set k x) = mrows L := by
  unfold mrows
  rw [List.map_set, hk]
  obtain ⟨hlt, rfl⟩ := List.getElem?_eq_some_iff.1 h
  have : MM.key L[k] = (L.map MM.key)[k]'(by rw [List.length_map]; exact hlt) := by rw [List.getElem_map]
  rw [this, List.set_getElem_self]
/-- Message k has a part more: in memory. -/
theorem AS.put {W w : World} {B a k mb : Nat} {v1 vn : Value} {L1 : List MM} {ps : List (Int × Value × List Int)} {F : List Ent} {xi xn at_ : Int} {ob o' : Obj} {b : List Int} (hk : L1[k]? = some (⟨xi, xn, mb, ob, ps⟩ : MM)) (hwf : ∀ x ∈ L1, x.wf)
    (hm : MapI Try.prog 3 o' ((ps.map fun p => (p.1, p.2.1)) ++ [(at_, vn)]))
    (h : Holds W B w (.st a [v1] 41 :: .rw v1 111 3 L1.length (mrows L1) :: .ob mb o' :: .rw vn 5 1 b.length (nums .u8 b) :: (ps.map pent ++ ((L1.take k).flatMap MM.ents ++ (L1.drop (k + 1)).flatMap MM.ents) ++ F))) :
    AS W B w a (L1.set k ⟨xi, xn, mb, o', ps ++ [(at_, vn, b)]⟩) F := by
  have hlt := (List.getElem?_eq_some_iff.1 hk).1
  refine ⟨fun x hx => ?_, v1, ?_⟩
  · rcases List.mem_or_eq_of_mem_set hx with hx | rfl
    · exact hwf x hx
    · unfold MM.wf
      rw [List.map_append]
      exact hm
  · rw [mrows_set L1 k ⟨xi, xn, mb, o', ps ++ [(at_, vn, b)]⟩ _ hk rfl, List.length_set, set_split L1 k hlt]
    refine Holds.permMid [_, _] (M := .ob mb o' :: .rw vn 5 1 b.length (nums .u8 b) :: (ps.map pent ++ ((L1.take k).flatMap MM.ents ++ (L1.drop (k + 1)).flatMap MM.ents))) (by simpa only [List.cons_append, List.append_assoc, List.nil_append] using h) ?_
    have e : (MM.ents ⟨xi, xn, mb, o', ps ++ [(at_, vn, b)]⟩) = .ob mb o' :: (ps.map pent ++ [.rw vn 5 1 b.length (nums .u8 b)]) := by
      unfold MM.ents
      rw [List.map_append]
      rfl
    rw [e]
    exact ((((List.perm_append_singleton _ _).symm.cons _).append_right _).trans (List.perm_append_comm_assoc _ _ _))
theorem feed_more {bs : List Int} {L L1 : List MM} {x1 x2 x3 k nn mb : Nat} {xi : Int} {ob o' : Obj} {vn : Value} {ps : List (Int × Value × List Int)} (hfd : feedA (L.map MM.abs) bs = feedAt (L1.map MM.abs) k (MM.abs ⟨xi, (nn : Int), mb, ob, ps⟩) (headOf bs) (bs.drop 3))
    (hh : headOf bs = ⟨x1, x2 + 1, x3⟩) (hnn : nn = x2 + 1) (hno : ∀ v, ((x3 : Int), v) ∉ ps.map fun p => (p.1, p.2.1)) (hlt : ps.length + 1 < nn) :
    feedA (L.map MM.abs) bs = ((L1.set k ⟨xi, (nn : Int), mb, o', ps ++ [((x3 : Int), vn, bs.drop 3)]⟩).map MM.abs, ⟨none, 0⟩) := by
  rw [hfd]
  unfold feedAt
  have hany : (((MM.abs ⟨xi, (nn : Int), mb, ob, ps⟩).ps).any fun p => p.1 == ((headOf bs).at_ : Int)) = false := by
    rw [List.any_eq_false, hh]
    intro p hp
    obtain ⟨q, hq, rfl⟩ := List.mem_map.1 hp
    simp only [beq_iff_eq]
    intro he
    exact hno q.2.1 (List.mem_map.2 ⟨q, hq, by rw [← he]⟩)
  rw [if_neg (by rw [hany]; decide), if_pos (by rw [hh]; simp only [MM.abs, List.length_map]; omega), List.map_set, hh]
  simp [MM.abs]
theorem feed_whole {bs : List Int} {L L1 : List MM} {x1 x2 x3 k nn mb : Nat} {xi : Int} {ob : Obj} {vn : Value} {ps : List (Int × Value × List Int)} (hfd : feedA (L.map MM.abs) bs = feedAt (L1.map MM.abs) k (MM.abs ⟨xi, (nn : Int), mb, ob, ps⟩) (headOf bs) (bs.drop 3))
    (hh : headOf bs = ⟨x1, x2 + 1, x3⟩) (hnn : nn = x2 + 1) (hno : ∀ v, ((x3 : Int), v) ∉ ps.map fun p => (p.1, p.2.1)) (hlt : ¬ ps.length + 1 < nn) :
    feedA (L.map MM.abs) bs = ((L1.eraseIdx k).map MM.abs, ⟨some (joined ((ps ++ [((x3 : Int), vn, bs.drop 3)]).map fun p => (p.1, p.2.2)) nn), 0⟩) := by
  rw [hfd]
  unfold feedAt
  have hany : (((MM.abs ⟨xi, (nn : Int), mb, ob, ps⟩).ps).any fun p => p.1 == ((headOf bs).at_ : Int)) = false := by
    rw [List.any_eq_false, hh]
    intro p hp
    obtain ⟨q, hq, rfl⟩ := List.mem_map.1 hp
    simp only [beq_iff_eq]
    intro he
    exact hno q.2.1 (List.mem_map.2 ⟨q, hq, by rw [← he]⟩)
  rw [if_neg (by rw [hany]; decide), if_neg (by rw [hh]; simp only [MM.abs, List.length_map]; omega), hh, hnn]
  simp [MM.abs, List.eraseIdx_eq_take_drop_succ, List.map_take, List.map_drop]
theorem erase_k (L : List MM) (k : Nat) (h : k < L.length) : L.length - 1 = (L.eraseIdx k).length ∧ rows3 ((((L.map MM.key).map mcells)).eraseIdx k) = mrows (L.eraseIdx k) ∧ (L.eraseIdx k).flatMap MM.ents = (L.take k).flatMap MM.ents ++ (L.drop (k + 1)).flatMap MM.ents := by
  refine ⟨?_, ?_, ?_⟩
  · rw [List.length_eraseIdx, if_pos h]
  · unfold mrows
    simp [List.eraseIdx_eq_take_drop_succ, List.map_take, List.map_drop]
  · rw [List.eraseIdx_eq_take_drop_succ, List.flatMap_append]
/-- Message k is whole and let go: in memory. -/
theorem AS.gone {W w : World} {B a k : Nat} {nv ov : Value} {L1 : List MM} {ps : List Ent} {F : List Ent} {out : List Int} (hk : k < L1.length) (hwf : ∀ x ∈ L1, x.wf)
    (h : Holds W B w (.st a [nv] 41 :: .rw nv 111 3 (L1.length - 1) (rows3 ((((L1.map MM.key).map mcells)).eraseIdx k)) :: .rw ov 5 1 out.length (nums .u8 out) :: (ps ++ ((L1.take k).flatMap MM.ents ++ (L1.drop (k + 1)).flatMap MM.ents) ++ F))) :
    AS W B w a (L1.eraseIdx k) (.rw ov 5 1 out.length (nums .u8 out) :: F) := by
  obtain ⟨e1, e2, e3⟩ := erase_k L1 k hk
  refine ⟨fun x hx => hwf x (List.mem_of_mem_eraseIdx hx), nv, ?_⟩
  rw [e1, e2] at h
  have h2 := Holds.lessMid [_, _, _] h (List.sublist_append_right _ _)
  have h3 := Holds.permMid [_, _] (M := .rw ov 5 1 out.length (nums .u8 out) :: ((L1.take k).flatMap MM.ents ++ (L1.drop (k + 1)).flatMap MM.ents)) h2 (List.perm_append_singleton _ _).symm
  rw [e3]
  simpa only [List.cons_append, List.append_assoc, List.nil_append] using h3
/-- The parts of a message that is whole. -/
structure Whole (o : Obj) (ps : List (Int × Value × List Int)) : Prop where
  map : MapI Try.prog 3 o (ps.map fun p => (p.1, p.2.1))
  keys : (ps.map (·.1)).Nodup
  short : ∀ p ∈ ps, p.2.2.length ≤ 300
def absP (ps : List (Int × Value × List Int)) : List (Int × List Int) := ps.map fun p => (p.1, p.2.2)
theorem Whole.mk' {o o' : Obj} {xi xn : Int} {mb x3 : Nat} {ps : List (Int × Value × List Int)} {vn : Value} {b : List Int} (hm : MapI Try.prog 3 o' ((ps.map fun p => (p.1, p.2.1)) ++ [((x3 : Int), vn)])) (hok : MsgOk' (MM.abs ⟨xi, xn, mb, o, ps⟩))
    (hno : ∀ v, ((x3 : Int), v) ∉ ps.map fun p => (p.1, p.2.1)) (hb : b.length ≤ 300) : Whole o' (ps ++ [((x3 : Int), vn, b)]) := by
  refine ⟨by rw [List.map_append]; exact hm, ?_, ?_⟩
  · have := hok.keys
    simp only [MM.abs, List.map_map] at this
    rw [List.map_append, List.nodup_append]
    refine ⟨this, by simp, fun x hx y hy => ?_⟩
    simp only [List.map_cons, List.map_nil, List.mem_singleton] at hy
    subst hy
    rintro rfl
    obtain ⟨q, hq, he⟩ := List.mem_map.1 hx
    exact hno q.2.1 (List.mem_map.2 ⟨q, hq, by rw [← he]⟩)
  · intro p hp
    rcases List.mem_append.1 hp with hp | hp
    · exact hok.short (p.1, p.2.2) (List.mem_map.2 ⟨p, hp, rfl⟩)
    · rw [List.mem_singleton] at hp
      subst hp
      exact hb
theorem joined_succ (ps : List (Int × List Int)) (j : Nat) : joined ps (j + 1) = joined ps j ++ ((ps.find? fun p => p.1 == (j : Int)).map (·.2)).getD [] := by
  unfold joined
  rw [List.range_succ, List.flatMap_append]
  simp
theorem find_short {ps : List (Int × List Int)} (h : ∀ p ∈ ps, p.2.length ≤ 300) (j : Int) : (((ps.find? fun p => p.1 == j).map (·.2)).getD []).length ≤ 300 := by
  cases hf : ps.find? fun p => p.1 == j with
  | none => simp
  | some p => exact h p (List.mem_of_find?_eq_some hf)
theorem joined_le {ps : List (Int × List Int)} (h : ∀ p ∈ ps, p.2.length ≤ 300) (j : Nat) : (joined ps j).length ≤ 300 * j := by
  induction j with
  | zero => simp [joined]
  | succ j ih =>
    rw [joined_succ, List.length_append]
    have := find_short h (j : Int)
    omega
theorem find_in {ps : List (Int × Value × List Int)} (hk : (ps.map (·.1)).Nodup) {j : Int} {v : Value} {b : List Int} (h : (j, v, b) ∈ ps) : (((absP ps).find? fun p => p.1 == j).map (·.2)).getD [] = b := by
  induction ps with
  | nil => cases h
  | cons p ps ih =>
    rw [List.map_cons, List.nodup_cons] at hk
    show (((((p.1, p.2.2) :: absP ps).find? fun p => p.1 == j).map (·.2)).getD []) = b
    rw [List.find?_cons]
    rcases List.mem_cons.1 h with rfl | h
    · simp
    · have hne : p.1 ≠ j := by
        intro e
        exact hk.1 (List.mem_map.2 ⟨_, h, e.symm⟩)
      have : (p.1 == j) = false := beq_eq_false_iff_ne.2 hne
      simp only [this]
      exact ih hk.2 h
theorem find_out {ps : List (Int × Value × List Int)} {j : Int} (h : ∀ v, (j, v) ∉ ps.map fun p => (p.1, p.2.1)) : (((absP ps).find? fun p => p.1 == j).map (·.2)).getD [] = [] := by
  have : ((absP ps).find? fun p => p.1 == j) = none := by
    rw [List.find?_eq_none]
    intro p hp
    obtain ⟨q, hq, rfl⟩ := List.mem_map.1 hp
    simp only [beq_iff_eq]
    intro e
    exact h q.2.1 (List.mem_map.2 ⟨q, hq, by rw [← e]⟩)
  rw [this]
  rfl
theorem nums_app (a b : List Int) : nums .u8 (a ++ b) = nums .u8 a ++ nums .u8 b := List.map_append
theorem nums_len1 (a : List Int) : (nums .u8 a).length = a.length * 1 := by simp [nums]
/-- The loop that joins the parts: what holds of memory. -/
def Join (W : World) (B : Nat) (w : World) (ov : Value) (g13 g9 mb : Nat) (xi nn : Int) (o : Obj) (ps : List (Int × Value × List Int)) (j : Nat) (F : List Ent) : Prop :=
  Holds W B w (.rw ov 5 1 (joined (absP ps) j).length (nums .u8 (joined (absP ps) j)) :: .st g13 [.int .u16 xi, .int .i64 nn, .map (some mb)] 111 :: .ob mb o :: .st g9 [.int .i64 nn] 3 :: (ps.map pent ++ F))
theorem Join.part {W w : World} {B : Nat} {ov : Value} {g13 g9 mb j : Nat} {xi nn i : Int} {o : Obj} {ps : List (Int × Value × List Int)} {F : List Ent} {v : Value} {b : List Int} (h : Join W B w ov g13 g9 mb xi nn o ps j F) (hp : (i, v, b) ∈ ps) :
    (v = .slice none 0 0 ∧ b = []) ∨ ∃ ad c, v = .slice (some ad) b.length c ∧ ∀ j u, (nums .u8 b)[j]? = some u → w.cell? (ad.add j) = some u := by
  have hm : pent (i, v, b) ∈ ps.map pent := List.mem_map.2 ⟨_, hp, rfl⟩
  have := Rd.of_own (h.each _ (List.mem_cons_of_mem _ (List.mem_cons_of_mem _ (List.mem_cons_of_mem _ (List.mem_cons_of_mem _ (List.mem_append_left _ hm))))))
  rcases this with ⟨h1, h2, _⟩ | ⟨ad, c, h1, _, _, h4⟩
  · exact .inl ⟨h1, List.eq_nil_of_length_eq_zero h2⟩
  · exact .inr ⟨ad, c, h1, h4⟩
theorem Join.next {W w' : World} {B : Nat} {v' : Value} {g13 g9 mb j : Nat} {xi nn : Int} {o : Obj} {ps : List (Int × Value × List Int)} {F : List Ent} {b : List Int} (hb : (((absP ps).find? fun p => p.1 == (j : Int)).map (·.2)).getD [] = b)
    (h : Holds W B w' (.rw v' 5 1 ((joined (absP ps) j).length + b.length) (nums .u8 (joined (absP ps) j) ++ nums .u8 b) :: .st g13 [.int .u16 xi, .int .i64 nn, .map (some mb)] 111 :: .ob mb o :: .st g9 [.int .i64 nn] 3 :: (ps.map pent ++ F))) : Join W B w' v' g13 g9 mb xi nn o ps (j + 1) F := by
  unfold Join
  rw [joined_succ, hb, nums_app, List.length_append]
  exact h
theorem Join.stay {W w : World} {B : Nat} {ov : Value} {g13 g9 mb j : Nat} {xi nn : Int} {o : Obj} {ps : List (Int × Value × List Int)} {F : List Ent} (hb : (((absP ps).find? fun p => p.1 == (j : Int)).map (·.2)).getD [] = [])
    (h : Join W B w ov g13 g9 mb xi nn o ps j F) : Join W B w ov g13 g9 mb xi nn o ps (j + 1) F := by
  unfold Join
  rw [joined_succ, hb, List.append_nil]
  exact h
theorem join_few {o : Obj} {ps : List (Int × Value × List Int)} (h : Whole o ps) {j : Nat} (hj : j ≤ 14) {i : Int} {v : Value} {b : List Int} (hp : (i, v, b) ∈ ps) : (joined (absP ps) j).length + b.length ≤ 1000000 := by
  have hs : ∀ p ∈ absP ps, p.2.length ≤ 300 := by
    intro p hp
    obtain ⟨q, hq, rfl⟩ := List.mem_map.1 hp
    exact h.short q hq
  have h1 := joined_le hs j
  have h2 := h.short _ hp
  dsimp only at h2
  omega
/-- What lies beside while the parts are joined. -/
def rest8 (g8 a : Nat) (x1 : Int) (nv : Value) (L1 : List MM) (k : Nat) (F : List Ent) : List Ent :=
  .st g8 [.int .u16 x1] 22 :: .st a [nv] 41 :: .rw nv 111 3 (L1.length - 1) (rows3 ((((L1.map MM.key).map mcells)).eraseIdx k)) :: ((L1.take k).flatMap MM.ents ++ (L1.drop (k + 1)).flatMap MM.ents) ++ F
theorem Join.start {W w : World} {B a k g13 g9 g8 mb : Nat} {x1 xi nn at_ : Int} {nv vn : Value} {L1 : List MM} {ps : List (Int × Value × List Int)} {F : List Ent} {o : Obj} {b : List Int}
    (h : Holds W B w (.st a [nv] 41 :: .rw nv 111 3 (L1.length - 1) (rows3 ((((L1.map MM.key).map mcells)).eraseIdx k)) :: .ob mb o :: .rw vn 5 1 b.length (nums .u8 b) :: .st g13 [.int .u16 xi, .int .i64 nn, .map (some mb)] 111 ::
      .st g9 [.int .i64 nn] 3 :: .st g8 [.int .u16 x1] 22 :: (ps.map pent ++ ((L1.take k).flatMap MM.ents ++ (L1.drop (k + 1)).flatMap MM.ents) ++ F))) :
    Join W B w (.slice none 0 0) g13 g9 mb xi nn o (ps ++ [(at_, vn, b)]) 0 (rest8 g8 a x1 nv L1 k F) := by
  have hz := Holds.sel [_, _, _, _, _, _, _] h [4, 2, 5, 6, 0, 1, 3] rfl
  simp only [pick, List.getElem?_cons_succ, List.getElem?_cons_zero, List.append_eq, List.cons_append, List.nil_append] at hz
  have hy := Holds.permMid [_, _, _] (M := .st g8 [.int .u16 x1] 22 :: .st a [nv] 41 :: .rw nv 111 3 (L1.length - 1) (rows3 ((((L1.map MM.key).map mcells)).eraseIdx k)) :: .rw vn 5 1 b.length (nums .u8 b) :: (ps.map pent ++ ((L1.take k).flatMap MM.ents ++ (L1.drop (k + 1)).flatMap MM.ents)))
    (M' := (ps.map pent ++ [.rw vn 5 1 b.length (nums .u8 b)]) ++ (.st g8 [.int .u16 x1] 22 :: .st a [nv] 41 :: .rw nv 111 3 (L1.length - 1) (rows3 ((((L1.map MM.key).map mcells)).eraseIdx k)) :: ((L1.take k).flatMap MM.ents ++ (L1.drop (k + 1)).flatMap MM.ents))) hz ?_
  · have hx := hy.nilrow 5 1
    unfold Join rest8
    rw [List.map_append]
    have e0 : joined (absP (ps ++ [(at_, vn, b)])) 0 = [] := rfl
    rw [e0]
    simpa only [List.cons_append, List.append_assoc, List.nil_append, List.map_cons, List.map_nil, pent, nums, List.length_nil] using hx
  · refine List.Perm.trans (List.perm_append_comm_assoc [_, _, _] (.rw vn 5 1 b.length (nums .u8 b) :: ps.map pent) _) ?_
    exact List.Perm.append_right _ (List.perm_append_singleton _ _).symm
theorem Join.done {W w : World} {B a k g13 g9 g8 mb : Nat} {x1 xi nn : Int} {nv ov : Value} {L1 : List MM} {ps : List (Int × Value × List Int)} {F : List Ent} {o : Obj} {j : Nat} (hk : k < L1.length) (hwf : ∀ x ∈ L1, x.wf)
    (h : Join W B w ov g13 g9 mb xi nn o ps j (rest8 g8 a x1 nv L1 k F)) : AS W B w a (L1.eraseIdx k) (.rw ov 5 1 (joined (absP ps) j).length (nums .u8 (joined (absP ps) j)) :: F) := by
  unfold Join rest8 at h
  have hy := Holds.permMid (W := W) (B := B) (w := w) (F := F) [] (M := .rw ov 5 1 (joined (absP ps) j).length (nums .u8 (joined (absP ps) j)) :: .st g13 [.int .u16 xi, .int .i64 nn, .map (some mb)] 111 :: .ob mb o :: .st g9 [.int .i64 nn] 3 :: (ps.map pent ++ (.st g8 [.int .u16 x1] 22 :: .st a [nv] 41 :: .rw nv 111 3 (L1.length - 1) (rows3 ((((L1.map MM.key).map mcells)).eraseIdx k)) :: ((L1.take k).flatMap MM.ents ++ (L1.drop (k + 1)).flatMap MM.ents))))
    (M' := .rw ov 5 1 (joined (absP ps) j).length (nums .u8 (joined (absP ps) j)) :: .st g13 [.int .u16 xi, .int .i64 nn, .map (some mb)] 111 :: .ob mb o :: .st g9 [.int .i64 nn] 3 :: (.st g8 [.int .u16 x1] 22 :: .st a [nv] 41 :: .rw nv 111 3 (L1.length - 1) (rows3 ((((L1.map MM.key).map mcells)).eraseIdx k)) :: (ps.map pent ++ ((L1.take k).flatMap MM.ents ++ (L1.drop (k + 1)).flatMap MM.ents)))) ?_ ?_
  · have hz := Holds.sel [_, _, _, _, _, _, _] hy [5, 6, 0] rfl
    simp only [pick, List.getElem?_cons_succ, List.getElem?_cons_zero, List.append_eq, List.cons_append, List.nil_append] at hz
    exact AS.gone hk hwf (by simpa only [List.cons_append, List.append_assoc, List.nil_append] using hz)
  · simpa only [List.cons_append, List.append_assoc, List.nil_append] using h
  · exact ((((List.perm_append_comm_assoc _ [_, _, _] _).cons _).cons _).cons _).cons _
theorem nn14 {nn x2 : Nat} (h : x2 < 2 ^ 4) (hn : nn = x2 + 1) : nn ≤ 1000 := by
  have : (2 : Nat) ^ 4 = 16 := by decide
  omega
theorem nn14' {bs : List Int} {x1 x2 x3 nn : Nat} (hh : headOf bs = ⟨x1, x2 + 1, x3⟩) (hn : nn = x2 + 1) (hok : okPart bs = true) : nn ≤ 14 := by
  unfold okPart at hok
  rw [hh] at hok
  simp only [Bool.and_eq_true, decide_eq_true_eq] at hok
  omega
theorem ents_snoc (L : List MM) (x : MM) : (L ++ [x]).flatMap MM.ents = L.flatMap MM.ents ++ x.ents := by simp
theorem placed_new {bs : List Int} {L L0 : List MM} {x1 x2 x3 nn mb : Nat} (hall : AllOk (L.map MM.abs)) (hok : okPart bs = true) (hh : headOf bs = ⟨x1, x2 + 1, x3⟩) (hnn : nn = x2 + 1)
    (hno : ∀ j (hj : j < (L.map MM.key).length), isM (x1 : Int) (nn : Int) (L.map MM.key)[j].1 = false) (hro : L0.map MM.abs = roomed (L.map MM.abs)) : Placed bs (L.map MM.abs) (L0 ++ [⟨x1, nn, mb, .map #[] 0, []⟩]) L0.length nn := by
  subst hnn
  have hfi : (L.map MM.abs).findIdx? (isMsg (headOf bs)) = none := by
    rw [List.findIdx?_eq_none_iff]
    intro m hm
    obtain ⟨j, hj, rfl⟩ := List.getElem_of_mem hm
    have := hno j (by rw [List.length_map]; rwa [List.length_map] at hj)
    rw [List.getElem_map] at this ⊢
    unfold isMsg
    rw [hh]
    exact this
  have hlen : L0.length = (roomed (L.map MM.abs)).length := by rw [← hro, List.length_map]
  have e1 : (L0 ++ [(⟨x1, (x2 + 1 : Nat), mb, .map #[] 0, []⟩ : MM)])[L0.length]'(by simp) = ⟨x1, (x2 + 1 : Nat), mb, .map #[] 0, []⟩ := by simp
  have h14 : x2 + 1 ≤ 14 := by
    unfold okPart at hok
    rw [hh] at hok
    simp only [Bool.and_eq_true, decide_eq_true_eq] at hok
    exact hok.1.2
  refine ⟨by simp, ?_, ?_, ?_⟩
  · unfold feedA
    rw [if_neg (by rw [hok]; decide), hfi]
    simp only
    rw [e1, List.map_append, hro, hlen, hh]
    rfl
  · rw [List.map_append, hro]
    refine ⟨?_, fun m hm => ?_⟩
    · have := hall.1
      rw [List.length_append]
      unfold roomed
      split
      · rename_i h4
        simp [h4]
      · simp at *
        omega
    · rcases List.mem_append.1 hm with hm | hm
      · refine hall.2 m ?_
        unfold roomed at hm
        split at hm
        · exact List.mem_of_mem_drop hm
        · exact hm
      · simp only [List.map_cons, List.map_nil, List.mem_singleton] at hm
        subst hm
        refine ⟨by simp [MM.abs], ?_, ?_, by simp [MM.abs], by simp [MM.abs]⟩
        · simp only [MM.abs]; omega
        · simp only [MM.abs]; omega
  · rw [e1]
theorem L0_few {L L0 : List MM} (hro : L0.map MM.abs = roomed (L.map MM.abs)) (h : AllOk (L.map MM.abs)) : L0.length ≤ 4 := by
  have e : L0.length = (roomed (L.map MM.abs)).length := by rw [← hro, List.length_map]
  have := h.1
  rw [e]
  unfold roomed
  split
  · rw [List.length_drop]; omega
  · exact this
/-- The pieces of message k, taken out. -/
theorem mm_split (L : List MM) (k : Nat) (h : k < L.length) : L.flatMap MM.ents = (L.take k).flatMap MM.ents ++ ((L[k]'h).ents ++ (L.drop (k + 1)).flatMap MM.ents) := by
  have e : L = L.take k ++ (L[k]'h :: L.drop (k + 1)) := by rw [← List.drop_eq_getElem_cons h, List.take_append_drop]
  calc L.flatMap MM.ents = (L.take k ++ (L[k]'h :: L.drop (k + 1))).flatMap MM.ents := by rw [← e]
    _ = _ := by rw [List.flatMap_append, List.flatMap_cons]
theorem dt {p : Prop} [Decidable p] (h : p) : decide p = true := decide_eq_true h
theorem df {p : Prop} [Decidable p] (h : ¬ p) : decide p = false := decide_eq_false h
theorem nn_facts {nn : Nat} (h0 : 0 < nn) (h : nn < 17) : IntKind.i64.wrap ((nn : Int) - 1) = (nn : Int) - 1 ∧ wrap64 ((nn : Int) - 1) = (nn : Int) - 1 := by rw [wrap_i64]; unfold wrap64; omega
theorem min_facts {n c m : Nat} (hm : m = min n 3) (hc : n ≤ c) (hn : n ≤ 100000000) : (0 : Int) ≤ (m : Int) ∧ (m : Int) ≤ (c : Int) ∧ m ≤ c ∧ (if (3 : Int) < (n : Int) then (3 : Int) else (n : Int)) = (m : Int) ∧ IntKind.i64.wrap ((n : Int) - 3) = (n : Int) - 3 ∧ wrap64 ((n : Int) - 3) = (n : Int) - 3 := by
  rw [wrap_i64]; unfold wrap64
  refine ⟨by omega, by omega, by omega, ?_, by omega, by omega⟩
  by_cases h : (3 : Int) < (n : Int)
  · rw [if_pos h]; omega
  · rw [if_neg h]; omega

theorem head_of {bs : List Int} {x1 x2 x3 p1 p2 p3 : Nat} {fl1 fl2 fl3 : Bool} (h1 : x1 < 2 ^ 16)
    (c1 : (fl1 = false ∧ True ∧ p1 = 0 + 16 ∧ (x1 : Int) = val (((bitsB (bs.take 3)).drop 0).take 16)) ∨ (fl1 = true ∧ x1 = 0 ∧ (false = true ∨ 8 * (bs.take 3).length < 0 + 16))) (h2 : x2 < 2 ^ 4)
    (c2 : (fl2 = false ∧ fl1 = false ∧ p2 = p1 + 4 ∧ (x2 : Int) = val (((bitsB (bs.take 3)).drop p1).take 4)) ∨ (fl2 = true ∧ x2 = 0 ∧ (fl1 = true ∨ 8 * (bs.take 3).length < p1 + 4))) (h3 : x3 < 2 ^ 4)
    (c3 : (fl3 = false ∧ fl2 = false ∧ p3 = p2 + 4 ∧ (x3 : Int) = val (((bitsB (bs.take 3)).drop p2).take 4)) ∨ (fl3 = true ∧ x3 = 0 ∧ (fl2 = true ∨ 8 * (bs.take 3).length < p2 + 4))) (hp3 : p3 ≤ 8 * (bs.take 3).length) : Head bs x1 x2 x3 fl3 := by
  refine ⟨h1, h2, h3, fun hf => ?_, fun hf => ?_⟩
  · rcases c3 with ⟨_, f2, e3, v3⟩ | ⟨h, _⟩
    · rcases c2 with ⟨_, f1, e2, v2⟩ | ⟨h, _⟩
      · rcases c1 with ⟨_, _, e1, v1⟩ | ⟨h, _⟩
        · rw [List.length_take] at hp3
          refine ⟨by omega, ?_⟩
          rw [e1] at v2 e2
          rw [e2] at v3
          rw [List.drop_zero] at v1
          unfold headOf bitsH
          rw [← v1, show (16 : Nat) = 0 + 16 from rfl, ← v2, show (20 : Nat) = 0 + 16 + 4 from rfl, ← v3]
          simp
        · rw [f1] at h; cases h
      · rw [f2] at h; cases h
    · rw [hf] at h; cases h
  · rcases c3 with ⟨h, _⟩ | ⟨_, _, h⟩
    · rw [hf] at h; cases h
    · rcases c2 with ⟨f2, f1, e2, _⟩ | ⟨f2, _, h2'⟩
      · rcases c1 with ⟨g1, _, e1, _⟩ | ⟨g1, _⟩
        · rw [f2] at h
          rcases h with h | h
          · cases h
          · rw [List.length_take] at h; omega
        · rw [f1] at g1; cases g1
      · rcases c1 with ⟨g1, _, e1, _⟩ | ⟨g1, _, h1'⟩
        · rw [g1] at h2'
          rcases h2' with h2' | h2'
          · cases h2'
          · rw [List.length_take] at h2'; omega
        · rcases h1' with h1' | h1'
          · cases h1'
          · rw [List.length_take] at h1'; omega

set_option maxRecDepth 100000 in
set_option maxHeartbeats 4000000 in
theorem feed (W : World) (B : Nat) (w : World) (a : Nat) (L : List MM) (A : Option Addr) (c : Nat) (bs : List Int) (F : List Ent) (hL : AllOk (L.map MM.abs)) (hb : bytesOk bs) (hr : ∀ w', Holds W B w' F → Rd w' (.slice A bs.length c) bs.length (nums .u8 bs)) (hc : bs.length ≤ c) (hH : AS W B w a L F) :
    Calls Try.prog 19 #[.pointer (some ⟨a, 0, none⟩), .slice A bs.length c] w fun e' w' => FeedPost W B a (L.map MM.abs) bs F e' w' := by
  have hfh := fun H => feed_head W B w H A c bs hb (hr w hH.frame) hc
  obtain ⟨m, hm⟩ : ∃ m, min bs.length 3 = m := ⟨_, rfl⟩
  obtain ⟨n, hn⟩ : ∃ n, bs.length = n := ⟨_, rfl⟩
  have hn8 : n ≤ 100000000 := by rw [← hn]; exact hb.1
  obtain ⟨s1, s2, s3, s4, s5, s6⟩ := min_facts (n := n) (c := c) (m := m) (by rw [← hn]; exact hm.symm) (by rw [← hn]; exact hc) hn8
  rw [hm] at hfh
  rw [hn] at hr hc ⊢
  have HFH := Lib.hid hfh
  have HB := Lib.hid hb
  have HR := Lib.hid (And.intro hr (And.intro hc hn8))
  have HN := Lib.hid (And.intro hn hm)
  have HH := Lib.hid hH
  have HL := Lib.hid hL
  clear hfh hb hr hc hn hm hH hL hn8
  go_enter Try.func19, Try.ntmps19
  have HMIN := Lib.hid s4
  clear s4
  go_wp2_with (refine wpList_min rfl (.tmp 22) (.const (.int .i64 3)) _ rfl _ _ _ rfl rfl HMIN.out ?_)
  have hAS := HH.out.2
  obtain ⟨v0, hAS⟩ := hAS
  refine (HFH.out _ hAS).mono ?_
  rintro e' w1 ⟨rb, rfl, h1⟩
  have hb3 : bytesOk (bs.take 3) := ⟨by rw [List.length_take]; have := HB.out.1; omega, fun x hx => HB.out.2 x (List.mem_of_mem_take hx)⟩
  have HB3 := Lib.hid hb3
  have H1 := Lib.hid h1
  clear hAS h1 hb3 HFH
  go_wp2_with fail
  refine (rtake_any _ _ _ _ _ _ _ _ _ 16 H1.out HB3.out (by omega) (by decide)).mono ?_
  rintro e' w2 ⟨x1, p1, fl1, rfl, h2, hp1, hx1, hcase1⟩
  have H2 := Lib.hid (And.intro h2 hp1)
  have HC1 := Lib.hid (And.intro hx1 hcase1)
  clear h2 hp1 hx1 hcase1 H1
  go_wp2_with fail
  refine (rtake_any _ _ _ _ _ _ _ _ _ 4 H2.out.1 HB3.out H2.out.2 (by decide)).mono ?_
  rintro e' w3 ⟨x2, p2, fl2, rfl, h3, hp2, hx2, hcase2⟩
  have H3 := Lib.hid (And.intro h3 hp2)
  have HC2 := Lib.hid (And.intro hx2 hcase2)
  clear h3 hp2 hx2 hcase2 H2
  go_wp2_with fail
  refine (rtake_any _ _ _ _ _ _ _ _ _ 4 H3.out.1 HB3.out H3.out.2 (by decide)).mono ?_
  rintro e' w4 ⟨x3, p3, fl3, rfl, h4, hp3, hx3, hcase3⟩
  obtain ⟨vr, h4⟩ := h4
  have H4 := Lib.hid h4
  have HD := head_of HC1.out.1 HC1.out.2 HC2.out.1 HC2.out.2 hx3 hcase3 hp3
  have HHD := Lib.hid HD
  obtain ⟨u1, u2, u3, u4, u5, u6, u7⟩ := th_facts HD.l1 HD.l2 HD.l3
  clear h4 hp3 hx3 hcase3 H3 HD HC1 HC2
  go_upto_region 6 with (fail)
  obtain ⟨nn, hnn⟩ : ∃ nn : Nat, (x2 : Int) + 1 = (nn : Int) := ⟨x2 + 1, rfl⟩
  have hn2 : nn = x2 + 1 := by omega
  rw [show wrap64 (x2 : Int) = (x2 : Int) from (wrap_i64 _).symm.trans u2, show wrap64 ((x2 : Int) + 1) = (x2 : Int) + 1 from (wrap_i64 _).symm.trans u4, hnn]
  have h5 := (H4.out.alloc [.int .u16 (x1 : Int)] 22).alloc [.int .i64 (nn : Int)] 3
  rw [show (w4.alloc (.cells [Value.int .u16 (x1 : Int)].toArray 22)).heap.size = w4.heap.size + 1 by simp] at h5
  generalize (w4.alloc (.cells #[.int .u16 (x1 : Int)] 22)).alloc (.cells #[.int .i64 (nn : Int)] 3) = w5 at *
  obtain ⟨g9, hg9⟩ : ∃ g9, w4.heap.size + 1 = g9 := ⟨_, rfl⟩
  obtain ⟨g8, hg8⟩ : ∃ g8, w4.heap.size = g8 := ⟨_, rfl⟩
  rw [hg9, hg8] at h5
  rw [hg9, hg8]
  have e9 := h5.cell 0 rfl
  have hok : ∀ q, Calls Try.prog 45 #[.pointer (some ⟨rb, 0, none⟩)] (w5.drewN q) fun e w' => e = .returned (.bool (!fl3)) ∧ ∃ k, w' = w5.drewN k := fun q =>
    (rok W B _ rb 124 _ _ fl3 _ ⟨_, (Holds.sel [_, _, _, _] h5 [2, 3, 0, 1] rfl).drewN q⟩).mono fun _ _ h => ⟨h.1, q, h.2.symm⟩
  have hcnt : ∀ q, Calls Try.prog 41 #[.int .i64 4000] (w5.drewN q) fun e w' => e = .returned (.int .i64 14) ∧ ∃ k, w' = w5.drewN k := fun q =>
    (fcount _ 4000 (by decide)).mono fun _ _ h => ⟨h.1, q, h.2⟩
  have HOK := Lib.hid hok
  have HCNT := Lib.hid hcnt
  have H5 := Lib.hid (Holds.sel [_, _, _, _] h5 [2, 0, 1] rfl)
  have HNN := Lib.hid (And.intro hnn hn2)
  clear h5 hok hcnt hnn hn2 hg8 hg9 H4 u1 u2 u3 u4
  go_cut [69] from 70 (fun t69 wx => t69 = .bool (!okPart bs) ∧ Holds W B wx (.st g9 [.int .i64 (nn : Int)] 3 :: .st g8 [.int .u16 (x1 : Int)] 22 :: .st a [v0] 41 :: .rw v0 111 3 L.length (mrows L) :: (L.flatMap MM.ents ++ F)))
  case first =>
    cases fl3 with
    | true =>
      have hbad := HHD.out.bad rfl
      clear u5 u6 u7
      have HOKP := Lib.hid (show okPart bs = false by unfold okPart; rw [decide_eq_false (by omega)]; rfl)
      go_quiet ((first | (go_at_call 45; exact HOK.out _) | (go_at_call 41; exact HCNT.out _)))
      go_wp2_with fail
      go_meet
      exact ⟨by rw [HOKP.out]; rfl, H5.out.tail.drewN _⟩
    | false =>
      obtain ⟨hge, hhd⟩ := HHD.out.good rfl
      have hop : okPart bs = (decide (4 ≤ n) && decide (n ≤ 303) && decide (x3 < nn) && decide (nn ≤ 14) && (decide (x3 + 1 = nn) || decide (n = 303))) := by
        unfold okPart
        rw [hhd, HN.out.1, HNN.out.2]
      have HOP := Lib.hid hop
      have hx3 := HHD.out.l3
      obtain ⟨z1, z2⟩ := nn_facts (nn := nn) (by rw [HNN.out.2]; exact Nat.succ_pos _) (by rw [HNN.out.2]; exact Nat.succ_lt_succ (Nat.lt_of_lt_of_le HHD.out.l2 (by decide)))
      clear hge hhd hop hx3
      by_cases c1 : n < 4
      · have t1 : decide ((n : Int) - 3 < 1) = true := dt (by omega)
        have HC := Lib.hid c1
        clear c1 z1 z2
        have HOKP := Lib.hid (show okPart bs = false by rw [HOP.out, decide_eq_false (Nat.not_le.2 HC.out)]; rfl)
        go_quiet ((first | (go_at_call 45; exact HOK.out _) | (go_at_call 41; exact HCNT.out _)))
        go_wp2_with fail
        go_meet
        exact ⟨by rw [HOKP.out]; rfl, H5.out.tail.drewN _⟩
      · have t1 : decide ((n : Int) - 3 < 1) = false := df (by omega)
        have HC1 := Lib.hid (Nat.le_of_not_lt c1)
        by_cases c2 : 303 < n
        · have t2 : decide ((300 : Int) < (n : Int) - 3) = true := dt (by omega)
          have HC := Lib.hid c2
          clear c1 c2 z1 z2
          have HOKP := Lib.hid (show okPart bs = false by rw [HOP.out, decide_eq_false (Nat.not_le.2 HC.out), Bool.and_false]; rfl)
          go_quiet ((first | (go_at_call 45; exact HOK.out _) | (go_at_call 41; exact HCNT.out _)))
          go_wp2_with fail
          go_meet
          exact ⟨by rw [HOKP.out]; rfl, H5.out.tail.drewN _⟩
        · have t2 : decide ((300 : Int) < (n : Int) - 3) = false := df (by omega)
          have HC2 := Lib.hid (Nat.le_of_not_lt c2)
          by_cases c3 : nn ≤ x3
          · have t3 : decide ((nn : Int) ≤ (x3 : Int)) = true := dt (by omega)
            have t3n : decide (nn ≤ x3) = true := dt c3
            have HC := Lib.hid c3
            clear c1 c2 c3 z1 z2
            have HOKP := Lib.hid (show okPart bs = false by rw [HOP.out, decide_eq_false (Nat.not_lt.2 HC.out), Bool.and_false]; rfl)
            go_quiet ((first | (go_at_call 45; exact HOK.out _) | (go_at_call 41; exact HCNT.out _)))
            go_wp2_with fail
            go_meet
            exact ⟨by rw [HOKP.out]; rfl, H5.out.tail.drewN _⟩
          · have t3 : decide ((nn : Int) ≤ (x3 : Int)) = false := df (by omega)
            have t3n : decide (nn ≤ x3) = false := df c3
            have HC3 := Lib.hid (Nat.lt_of_not_le c3)
            by_cases c4 : 14 < nn
            · have t4 : decide ((14 : Int) < (nn : Int)) = true := dt (by omega)
              have t4n : decide (14 < nn) = true := dt c4
              have HC := Lib.hid c4
              clear c1 c2 c3 c4 z1 z2
              have HOKP := Lib.hid (show okPart bs = false by rw [HOP.out, decide_eq_false (Nat.not_le.2 HC.out), Bool.and_false]; rfl)
              go_quiet ((first | (go_at_call 45; exact HOK.out _) | (go_at_call 41; exact HCNT.out _)))
              go_wp2_with fail
              go_meet
              exact ⟨by rw [HOKP.out]; rfl, H5.out.tail.drewN _⟩
            · have t4 : decide ((14 : Int) < (nn : Int)) = false := df (by omega)
              have t4n : decide (14 < nn) = false := df c4
              have HC4 := Lib.hid (Nat.le_of_not_lt c4)
              by_cases c5 : x3 + 1 = nn
              · have t5 : decide ((x3 : Int) < (nn : Int) - 1) = false := df (by omega)
                have HC := Lib.hid c5
                clear c1 c2 c3 c4 c5
                have HOKP := Lib.hid (show okPart bs = true by rw [HOP.out, decide_eq_true HC1.out, decide_eq_true HC2.out, decide_eq_true HC3.out, decide_eq_true HC4.out, decide_eq_true HC.out]; rfl)
                go_quiet ((first | (go_at_call 45; exact HOK.out _) | (go_at_call 41; exact HCNT.out _)))
                go_wp2_with fail
                go_meet
                exact ⟨by rw [HOKP.out]; rfl, H5.out.tail.drewN _⟩
              · have t5 : decide ((x3 : Int) < (nn : Int) - 1) = true := dt (by omega)
                have HC5 := Lib.hid c5
                by_cases c6 : n = 303
                · have t6 : ((n : Int) - 3 != 300) = false := by rw [c6]; rfl
                  have HC := Lib.hid c6
                  clear c1 c2 c3 c4 c5 c6
                  have HOKP := Lib.hid (show okPart bs = true by rw [HOP.out, decide_eq_true HC1.out, decide_eq_true HC2.out, decide_eq_true HC3.out, decide_eq_true HC4.out, decide_eq_true HC.out, Bool.or_true]; rfl)
                  go_quiet ((first | (go_at_call 45; exact HOK.out _) | (go_at_call 41; exact HCNT.out _)))
                  go_wp2_with fail
                  go_meet
                  exact ⟨by rw [HOKP.out]; rfl, H5.out.tail.drewN _⟩
                · have t6 : ((n : Int) - 3 != 300) = true := bne_iff_ne.2 (by omega)
                  have HC := Lib.hid c6
                  clear c1 c2 c3 c4 c5 c6
                  skip
                  have HOKP := Lib.hid (show okPart bs = false by rw [HOP.out, decide_eq_false HC5.out, decide_eq_false HC.out, show (false || false) = false from rfl, Bool.and_false])
                  go_quiet ((first | (go_at_call 45; exact HOK.out _) | (go_at_call 41; exact HCNT.out _)))
                  go_wp2_with fail
                  go_meet
                  exact ⟨by rw [HOKP.out]; rfl, H5.out.tail.drewN _⟩
  case rest =>
    obtain ⟨rfl, hc6⟩ := hcut
    have HC6 := Lib.hid hc6
    have HWF := Lib.hid HH.out.1
    obtain ⟨okp, hokp⟩ : ∃ okp, okPart bs = okp := ⟨_, rfl⟩
    rw [hokp]
    have HOKP := Lib.hid hokp
    clear hc6 hokp HOK HCNT H5 HH e9
    cases okp with
    | false =>
      go_wp2_with fail
      refine bodyPost_ret (results_tmp3 rfl _ _ _) rfl ⟨L, ?_, .inl ⟨?_, ?_, HWF.out, v0, HC6.out.tail.tail⟩⟩
      · unfold feedA; rw [if_pos HOKP.out]; try rfl
      · unfold feedA; rw [if_pos HOKP.out]; try rfl
      · unfold feedA; rw [if_pos HOKP.out]; try rfl
    | true =>
      have hmf : ∀ (fn : Fn) (first cap : Array Value) (w : World), (Instr.makeFunc fn first cap).run Try.prog w = .ok (.func fn first cap) w := fun _ _ _ _ => rfl
      have e0 := HC6.out.up2.cell 0 rfl
      have hll : L.length ≤ 4 := by have := HL.out.1; rwa [List.length_map] at this
      have hlk : (L.map MM.key).length = L.length := List.length_map _
      have hix := fidx W B wc g8 g9 (x1 : Int) (nn : Int) (L.map MM.key) v0 (.st a [v0] 41 :: (L.flatMap MM.ents ++ F)) (by rw [hlk]; omega) (by rw [hlk]; exact Holds.sel [_, _, _, _] HC6.out [1, 0, 3, 2] rfl)
      have HIX := Lib.hid hix
      have HLL := Lib.hid (And.intro hll hlk)
      obtain ⟨Av, cv, rfl⟩ := HC6.out.up3.slice
      clear hix hll hlk
      go_wp2_with fail
      refine HIX.out.mono ?_
      rintro e' w7 ⟨hbl7, hcs7⟩
      have h7 := Holds.belowed HC6.out hbl7
      have H7 := Lib.hid h7
      obtain ⟨kv, rfl, hkv⟩ := idx_val hcs7
      have HKV := Lib.hid hkv
      clear h7 hbl7 hcs7 hkv HIX e0 HC6
      go_upto_if 77 with (fail)
      go_cut [12] from 13 (fun t12 wx => ∃ (k : Nat) (L1 : List MM), t12 = .int .i64 (k : Int) ∧ Placed bs (L.map MM.abs) L1 k nn ∧ (∀ x ∈ L1, x.wf) ∧ ∃ v1, Holds W B wx (.st g9 [.int .i64 (nn : Int)] 3 :: .st g8 [.int .u16 (x1 : Int)] 22 :: .st a [v1] 41 :: .rw v1 111 3 L1.length (mrows L1) :: (L1.flatMap MM.ents ++ F)))
      case first =>
        rcases HKV.out with ⟨k, hk, rfl, hno, hyes⟩ | ⟨rfl, hno⟩
        · have kn : ¬ (k : Int) < 0 := Int.not_lt.2 (Int.natCast_nonneg _)
          have kb : decide ((k : Int) < 0) = false := decide_eq_false kn
          have hpl := placed_old HL.out HOKP.out (HHD.out.good (fl_false HOKP.out HHD.out)).2 HNN.out.2 hk hno hyes
          have HPL := Lib.hid hpl
          clear hk hno hyes hpl HKV
          go_wp2_with fail
          go_meet
          exact ⟨k, L, rfl, HPL.out, HWF.out, _, H7.out⟩
        · have kb : decide ((-1 : Int) < 0) = true := by decide
          have HNO := Lib.hid hno
          have e0 := H7.out.up2.cell 0 rfl
          clear hno HKV
          go_upto_if 83 with (fail)
          go_cut [8, 77, 83] from 84 (fun t8 _ _ wx => t8 = .pointer (some ⟨g8, 0, none⟩) ∧ ∃ (L0 : List MM) (vz : Value), L0.map MM.abs = roomed (L.map MM.abs) ∧ (∀ x ∈ L0, x.wf) ∧ Holds W B wx (.st g9 [.int .i64 (nn : Int)] 3 :: .st g8 [.int .u16 (x1 : Int)] 22 :: .st a [vz] 41 :: .rw vz 111 3 L0.length (mrows L0) :: (L0.flatMap MM.ents ++ F)))
          case first =>
            by_cases hl4 : L.length = 4
            · have tb : ((L.length : Int) == 4) = true := by rw [hl4]; rfl
              obtain ⟨g, cap, he, _⟩ := H7.out.up3.row (by rw [hl4]; decide)
              simp only [Value.slice.injEq, true_and] at he
              obtain ⟨rfl, rfl⟩ := he
              have hmd : Calls Try.prog 48 #[.slice (some ⟨g, 0, none⟩) L.length cv, .int .i64 0, .int .i64 1] w7 _ := mdel W B w7 _ g cv ((L.map MM.key).map mcells) L.length 0 (mcells_three _) (by rw [List.length_map, List.length_map]) (by rw [hl4]; decide) (by rw [hl4]; decide) H7.out.up3
              have HMD := Lib.hid hmd
              have HL4 := Lib.hid hl4
              have er := erase_first L hl4
              have HER := Lib.hid er
              clear hmd hl4 er
              go_wp2_with fail
              refine HMD.out.mono ?_
              rintro e' w8 ⟨rfl, h8⟩
              have r0 := h8.up3.cell 0 rfl
              have rf := h8.up3.frozen 0
              have h9 := h8.up3.set 0 (.slice (some ⟨g, 0, none⟩) (L.length - 1 : Nat) cv)
              simp only [List.set] at h9
              have H9 := Lib.hid h9
              clear h8 h9 HMD
              go_wp2_with fail
              go_meet
              refine ⟨rfl, L.drop 1, .slice (some ⟨g, 0, none⟩) (L.length - 1 : Nat) cv, HER.out.1, fun x hx => HWF.out x (List.mem_of_mem_drop hx), ?_⟩
              have hz := Holds.sel [_, _, _, _] H9.out [2, 3, 0, 1] rfl
              simp only [pick, List.getElem?_cons_succ, List.getElem?_cons_zero, List.append_eq, List.cons_append, List.nil_append] at hz
              rw [HER.out.2.1, HER.out.2.2.1] at hz
              rw [HER.out.2.1]
              exact Holds.lessMid [_, _, _, _] hz HER.out.2.2.2
            · have tb : ((L.length : Int) == 4) = false := beq_eq_false_iff_ne.2 (by omega)
              have HL4 := Lib.hid hl4
              clear hl4
              go_wp2_with fail
              go_meet
              refine ⟨rfl, L, _, ?_, HWF.out, H7.out⟩
              unfold roomed
              rw [if_neg (by rw [List.length_map]; exact HL4.out)]
          case rest =>
            obtain ⟨rfl, L0, vz, hro, hwz, hcz⟩ := hcut
            obtain ⟨Az, cz, rfl⟩ := hcz.up3.slice
            have hS1 : wc.drew.cell? ⟨a, 0, none⟩ = some (.slice Az L0.length cz) ∧ wc.drew.cell? ⟨g8, 0, none⟩ = some (.int .u16 (x1 : Int)) ∧ wc.drew.cell? ⟨g9, 0, none⟩ = some (.int .i64 (nn : Int)) ∧ wc.drew.frozen? ⟨a, 0, none⟩ = false := ⟨hcz.up2.cell 0 rfl, hcz.up1.cell 0 rfl, hcz.cell 0 rfl, hcz.up2.frozen 0⟩
            have e0 := hcz.up2.cell 0 rfl
            have HCZ := Lib.hid hcz
            have HRO := Lib.hid (And.intro hro hwz)
            clear hcz hro hwz H7
            go_wp2_with fail
            refine Mix.region 11 (fun w' => w'.cell? ⟨a, 0, none⟩ = some (.slice Az L0.length cz) ∧ w'.cell? ⟨g8, 0, none⟩ = some (.int .u16 (x1 : Int)) ∧ w'.cell? ⟨g9, 0, none⟩ = some (.int .i64 (nn : Int)) ∧ w'.frozen? ⟨a, 0, none⟩ = false) (by kernel_rfl) ?_
            simp only [List.size_toArray, List.length_cons, List.length_nil]
            refine Mix.at_take (i := 0) (v := ?_) rfl (by kernel_rfl) (by kernel_rfl) (by kernel_rfl) (by kernel_rfl) (by kernel_rfl) (by kernel_rfl) (by kernel_rfl) (fun _ _ _ h => h) (Or.inl ⟨by rfl, ?_⟩) hS1 ?_
            rotate_left
            · intro w hSw
              (try dsimp only at hSw)
              go_simp
              try (with_reducible rfl)
            simp only [Act.put, List.setIfInBounds_toArray, List.set_cons_zero, List.set_cons_succ]
            refine Mix.at_take (i := 1) (v := ?_) rfl (by kernel_rfl) (by kernel_rfl) (by kernel_rfl) (by kernel_rfl) (by kernel_rfl) (by kernel_rfl) (by kernel_rfl) (fun _ _ _ h => h) (Or.inl ⟨by rfl, ?_⟩) hS1 ?_
            rotate_left
            · intro w hSw
              (try dsimp only at hSw)
              go_simp
              try (with_reducible rfl)
            simp only [Act.put, List.setIfInBounds_toArray, List.set_cons_zero, List.set_cons_succ]
            refine Mix.at_take (i := 2) (v := ?_) rfl (by kernel_rfl) (by kernel_rfl) (by kernel_rfl) (by kernel_rfl) (by kernel_rfl) (by kernel_rfl) (by kernel_rfl) (fun _ _ _ h => h) (Or.inl ⟨by rfl, ?_⟩) hS1 ?_
            rotate_left
            · intro w hSw
              (try dsimp only at hSw)
              go_simp
              try (with_reducible rfl)
            simp only [Act.put, List.setIfInBounds_toArray, List.set_cons_zero, List.set_cons_succ]
            refine Mix.at_take (i := 3) (v := ?_) rfl (by kernel_rfl) (by kernel_rfl) (by kernel_rfl) (by kernel_rfl) (by kernel_rfl) (by kernel_rfl) (by kernel_rfl) (fun _ _ _ h => h) (Or.inl ⟨by rfl, ?_⟩) hS1 ?_
            rotate_left
            · intro w hSw
              (try dsimp only at hSw)
              go_simp
              try (with_reducible rfl)
            simp only [Act.put, List.setIfInBounds_toArray, List.set_cons_zero, List.set_cons_succ]
            refine Mix.at_take (i := 4) (v := ?_) rfl (by kernel_rfl) (by kernel_rfl) (by kernel_rfl) (by kernel_rfl) (by kernel_rfl) (by kernel_rfl) (by kernel_rfl) (fun _ _ _ h => h) (Or.inl ⟨by rfl, ?_⟩) hS1 ?_
            rotate_left
            · intro w hSw
              (try dsimp only at hSw)
              go_simp
              try (with_reducible rfl)
            simp only [Act.put, List.setIfInBounds_toArray, List.set_cons_zero, List.set_cons_succ]
            refine Mix.at_take (i := 5) (v := ?_) rfl (by kernel_rfl) (by kernel_rfl) (by kernel_rfl) (by kernel_rfl) (by kernel_rfl) (by kernel_rfl) (by kernel_rfl) (fun _ _ _ h => h) (Or.inl ⟨by rfl, ?_⟩) hS1 ?_
            rotate_left
            · intro w hSw
              (try dsimp only at hSw)
              go_simp
              try (with_reducible rfl)
            simp only [Act.put, List.setIfInBounds_toArray, List.set_cons_zero, List.set_cons_succ]
            refine Mix.at_take (i := 6) (v := ?_) rfl (by kernel_rfl) (by kernel_rfl) (by kernel_rfl) (by kernel_rfl) (by kernel_rfl) (by kernel_rfl) (by kernel_rfl) (fun _ _ _ h => h) (Or.inl ⟨by rfl, ?_⟩) hS1 ?_
            rotate_left
            · intro w hSw
              (try dsimp only at hSw)
              go_simp
              try (with_reducible rfl)
            simp only [Act.put, List.setIfInBounds_toArray, List.set_cons_zero, List.set_cons_succ]
            refine Mix.at_step (i := 7) rfl (by kernel_rfl) (by kernel_rfl) (by rfl) ?_
            obtain ⟨im, hmi, hmz0, hmz1, hmz2⟩ := info_parts info_msg
            have hmm := @run_makeMap Try.prog
            unfold Oper.wp
            go_simp
            clear hmm
            have h3 := HCZ.out.mkOb (.map #[] 0)
            obtain ⟨mb, hmb⟩ : ∃ mb, wc.heap.size = mb := ⟨_, rfl⟩
            rw [hmb] at h3
            rw [hmb]
            generalize wc.alloc (.map #[] 0) = wm at *
            have hS1 : wm.cell? ⟨a, 0, none⟩ = some (.slice Az L0.length cz) ∧ wm.cell? ⟨g8, 0, none⟩ = some (.int .u16 (x1 : Int)) ∧ wm.cell? ⟨g9, 0, none⟩ = some (.int .i64 (nn : Int)) ∧ wm.frozen? ⟨a, 0, none⟩ = false := ⟨h3.up3.cell 0 rfl, h3.up2.cell 0 rfl, h3.up1.cell 0 rfl, h3.up3.frozen 0⟩
            refine ⟨hS1, ?_⟩
            have H3 := Lib.hid h3
            clear h3 hmb HCZ
            refine Mix.at_take (i := 8) (v := ?_) rfl (by kernel_rfl) (by kernel_rfl) (by kernel_rfl) (by kernel_rfl) (by kernel_rfl) (by kernel_rfl) (by kernel_rfl) (fun _ _ _ h => h) (Or.inl ⟨by rfl, ?_⟩) hS1 ?_
            rotate_left
            · intro w hSw
              (try dsimp only at hSw)
              go_simp
              try (with_reducible rfl)
            simp only [Act.put, List.setIfInBounds_toArray, List.set_cons_zero, List.set_cons_succ]
            refine Mix.at_step (i := 9) rfl (by kernel_rfl) (by kernel_rfl) (by rfl) ?_
            unfold Oper.wp
            go_simp
            have h4 := H3.out.alloc' (.cells #[.int .u16 (x1 : Int), .int .i64 (nn : Int), .map (some mb)] 111)
            have hS1 : (wm.alloc (.cells #[.int .u16 (x1 : Int), .int .i64 (nn : Int), .map (some mb)] 111)).cell? ⟨a, 0, none⟩ = some (.slice Az L0.length cz) ∧ (wm.alloc (.cells #[.int .u16 (x1 : Int), .int .i64 (nn : Int), .map (some mb)] 111)).cell? ⟨g8, 0, none⟩ = some (.int .u16 (x1 : Int)) ∧ (wm.alloc (.cells #[.int .u16 (x1 : Int), .int .i64 (nn : Int), .map (some mb)] 111)).cell? ⟨g9, 0, none⟩ = some (.int .i64 (nn : Int)) ∧ (wm.alloc (.cells #[.int .u16 (x1 : Int), .int .i64 (nn : Int), .map (some mb)] 111)).frozen? ⟨a, 0, none⟩ = false := ⟨h4.up3.cell 0 rfl, h4.up2.cell 0 rfl, h4.up1.cell 0 rfl, h4.up3.frozen 0⟩
            refine ⟨hS1, ?_⟩
            have H4 := Lib.hid ((Holds.sel [_, _, _, _, _] h4 [4, 0, 1, 2, 3] rfl).drewN 1)
            clear h4 H3
            refine Mix.at_step (i := 10) rfl (by kernel_rfl) (by kernel_rfl) (by rfl) ?_
            refine wp_append_one (.tmp 101) (.tmp 106) 39 rfl 111 im _ 3 24 Try.underlying39 hmi hmz0 hmz1 hmz2 rfl (by decide) rfl H4.out [.int .u16 (x1 : Int), .int .i64 (nn : Int), .map (some mb)] rfl rfl (fun j u hu => cell_one_at rfl (by simpa using hu)) (by intro u hu; simp at hu; rcases hu with rfl | rfl | rfl <;> rfl) (few' (L0_few HRO.out.1 HL.out) (by decide)) (by decide) ?_
            intro g4 c4 w4 h5
            simp only [pick, List.getElem?_cons_succ, List.getElem?_cons_zero, List.append_eq, List.cons_append, List.nil_append] at h5
            have hS1 : w4.cell? ⟨a, 0, none⟩ = some (.slice Az L0.length cz) ∧ w4.cell? ⟨g8, 0, none⟩ = some (.int .u16 (x1 : Int)) ∧ w4.cell? ⟨g9, 0, none⟩ = some (.int .i64 (nn : Int)) ∧ w4.frozen? ⟨a, 0, none⟩ = false := ⟨h5.up4.cell 0 rfl, h5.up3.cell 0 rfl, h5.up2.cell 0 rfl, h5.up4.frozen 0⟩
            refine ⟨hS1, ?_⟩
            simp only [Act.put, List.setIfInBounds_toArray, List.set_cons_zero, List.set_cons_succ]
            obtain ⟨e0, _, _, e3⟩ := hS1
            have h6 := (Holds.sel [_, _, _, _, _] h5 [4, 3, 2, 1, 0] rfl).set 0 (.slice (some ⟨g4, 0, none⟩) (L0.length + 1 : Nat) c4)
            simp only [pick, List.set, List.getElem?_cons_succ, List.getElem?_cons_zero, List.append_eq, List.cons_append, List.nil_append] at h6
            have H6 := Lib.hid h6
            clear h5 h6 H4
            refine Mix.at_tail _ rfl rfl (by kernel_rfl) ?_
            simp only [List.drop_succ_cons, List.drop_zero]
            go_wp2_with fail
            go_meet
            refine ⟨L0.length, L0 ++ [⟨x1, nn, mb, .map #[] 0, []⟩], rfl, placed_new HL.out HOKP.out (HHD.out.good (fl_false HOKP.out HHD.out)).2 HNN.out.2 HNO.out HRO.out.1, ?_, .slice (some ⟨g4, 0, none⟩) (L0.length + 1 : Nat) c4, ?_⟩
            · intro x hx
              rcases List.mem_append.1 hx with hx | hx
              · exact HRO.out.2 x hx
              · rw [List.mem_singleton] at hx
                subst hx
                exact MapI.new
            · have hz := Holds.sel [_, _, _, _, _] H6.out [2, 1, 0, 4, 3] rfl
              simp only [pick, List.getElem?_cons_succ, List.getElem?_cons_zero, List.append_eq, List.cons_append, List.nil_append] at hz
              rw [mrows_snoc, ents_snoc, List.length_append]
              exact Holds.permMid [_, _, _, _] (M := [.ob mb (.map #[] 0)] ++ L0.flatMap MM.ents) hz List.perm_append_comm
      case rest =>
        obtain ⟨k, L1, rfl, hpl, hwf1, v1, hc7⟩ := hcut
        have hlt := hpl.lt
        obtain ⟨g1, cap1, rfl, _⟩ := hc7.up3.row (Nat.lt_of_le_of_lt (Nat.zero_le _) hlt)
        have hkL : k < ((L1.map MM.key).map mcells).length := by rw [List.length_map, List.length_map]; exact hlt
        have hx : ((L1.map MM.key).map mcells)[k] = mcells (L1[k]'hlt).key := by rw [List.getElem_map, List.getElem_map]
        have q0 := (hc7.up3.rcell (k * 3 + 0) (by omega)).trans (rows3_at (mcells_three (L1.map MM.key)) k hkL 0 (by decide))
        have q1 := (hc7.up3.rcell (k * 3 + 1) (by omega)).trans (rows3_at (mcells_three (L1.map MM.key)) k hkL 1 (by decide))
        have q2 := (hc7.up3.rcell (k * 3 + 2) (by omega)).trans (rows3_at (mcells_three (L1.map MM.key)) k hkL 2 (by decide))
        rw [hx] at q0 q1 q2
        have hl4 : L1.length ≤ 1000 := by have := hpl.ok.1; rw [List.length_map] at this; omega
        obtain ⟨k0, k1, _, _⟩ := fi_facts hlt hl4
        obtain ⟨hfd, hall1, hnis⟩ : feedA (L.map MM.abs) bs = feedAt (L1.map MM.abs) k (L1[k]'hlt).abs (headOf bs) (bs.drop 3) ∧ AllOk (L1.map MM.abs) ∧ (L1[k]'hlt).n = (nn : Int) := ⟨hpl.feed, hpl.ok, hpl.n_is⟩
        have hmm := mm_split L1 k hlt
        have hwx := hwf1 _ (List.getElem_mem hlt)
        have hax := hall1.2 _ (List.mem_map.2 ⟨_, List.getElem_mem hlt, rfl⟩)
        obtain ⟨x, hxx⟩ : ∃ x, L1[k]'hlt = x := ⟨_, rfl⟩
        rw [hxx] at q0 q1 q2 hfd hnis hmm hwx hax
        obtain ⟨xi, xn, mb, ob, ps⟩ := x
        dsimp only at hnis
        subst hnis
        simp only [mcells, MM.key, List.getElem?_cons_zero, List.getElem?_cons_succ, Nat.add_zero] at q0 q1 q2
        have e0 := hc7.up2.cell 0 rfl
        have HC7 := Lib.hid hc7
        have HFD := Lib.hid (And.intro hfd hall1)
        have HMM := Lib.hid hmm
        have HWX := Lib.hid (And.intro hwx hax)
        have HW1 := Lib.hid hwf1
        have hxq : L1[k]? = some (⟨xi, (nn : Int), mb, ob, ps⟩ : MM) := by rw [List.getElem?_eq_getElem hlt, hxx]
        have HLT := Lib.hid (And.intro hlt hxq)
        clear hc7 hfd hall1 hmm hwx hax hwf1 hkL hx hpl hxx hxq hl4 hlt H7 HKV
        go_upto_region 15 with (fail)
        have h8 := HC7.out.alloc [.int .u16 xi, .int .i64 (nn : Int), .map (some mb)] 111
        obtain ⟨g13, hg13⟩ : ∃ g13, wc.heap.size = g13 := ⟨_, rfl⟩
        rw [hg13] at h8
        rw [hg13]
        change Holds W B (wc.alloc (.cells #[.int .u16 xi, .int .i64 (nn : Int), .map (some mb)] 111)) _ at h8
        generalize wc.alloc (.cells #[.int .u16 xi, .int .i64 (nn : Int), .map (some mb)] 111) = w8 at *
        have H8 := Lib.hid h8
        rw [HMM.out] at h8
        have h9 := Holds.permMid [_, _, _, _, _] h8 (List.perm_append_comm_assoc _ _ _)
        simp only [MM.ents, List.cons_append, List.nil_append] at h9
        have hob := (Holds.sel [_, _, _, _, _, _] h9 [5] rfl).ob
        have hlk := MapI.look true HWX.out.1 map_keyed Try.underlying109 (zero_sl w8) hob (i := (x3 : Int)) (int_key (Int.natCast_nonneg _) (by have := HHD.out.l3; omega))
        have e2 := h9.cell 2 rfl
        have H9 := Lib.hid h9
        clear h8 h9 hob hg13 HC7 q0 q1 q2 e0
        rcases hlk with ⟨v, hv, hrun⟩ | ⟨hno, hrun⟩
        · have HV := Lib.hid hv
          simp only [if_true] at hrun
          clear hv
          go_wp2_with fail
          have hany : ((⟨xi, (nn : Int), mb, ob, ps⟩ : MM).abs.ps.any fun p => p.1 == ((headOf bs).at_ : Int)) = true := by
            rw [(HHD.out.good (fl_false HOKP.out HHD.out)).2]
            obtain ⟨p, hp, he⟩ := List.mem_map.1 HV.out
            simp only [Prod.mk.injEq] at he
            rw [List.any_eq_true]
            exact ⟨(p.1, p.2.2), List.mem_map.2 ⟨p, hp, rfl⟩, beq_iff_eq.2 he.1⟩
          have hfa : feedA (L.map MM.abs) bs = (L1.map MM.abs, ⟨none, 8⟩) := by
            rw [HFD.out.1]
            unfold feedAt
            rw [if_pos hany]
          refine bodyPost_ret (results_tmp3 rfl _ _ _) rfl ⟨L1, ?_, .inl ⟨?_, ?_, HW1.out, _, H8.out.tail.tail.tail⟩⟩
          · rw [hfa]
          · rw [hfa]
          · rw [hfa]; try rfl
        · have HV := Lib.hid hno
          simp only [if_true] at hrun
          clear hno
          go_upto_region 18 with (fail)
          have hS1 : w8.drew.cell? ⟨g13, 2, none⟩ = some (.map (some mb)) := H9.out.cell 2 rfl
          refine Mix.region 6 (fun w' => w'.cell? ⟨g13, 2, none⟩ = some (.map (some mb))) (by kernel_rfl) ?_
          simp only [List.size_toArray, List.length_cons, List.length_nil]
          refine Mix.at_take (i := 0) (v := ?_) rfl (by kernel_rfl) (by kernel_rfl) (by kernel_rfl) (by kernel_rfl) (by kernel_rfl) (by kernel_rfl) (by kernel_rfl) (fun _ _ _ h => h) (Or.inl ⟨by rfl, ?_⟩) hS1 ?_
          rotate_left
          · intro w hSw
            (try dsimp only at hSw)
            go_simp
            try (with_reducible rfl)
          simp only [Act.put, List.setIfInBounds_toArray, List.set_cons_zero, List.set_cons_succ]
          refine Mix.at_take (i := 1) (v := ?_) rfl (by kernel_rfl) (by kernel_rfl) (by kernel_rfl) (by kernel_rfl) (by kernel_rfl) (by kernel_rfl) (by kernel_rfl) (fun _ _ _ h => h) (Or.inl ⟨by rfl, ?_⟩) hS1 ?_
          rotate_left
          · intro w hSw
            (try dsimp only at hSw)
            go_simp
            try (with_reducible rfl)
          simp only [Act.put, List.setIfInBounds_toArray, List.set_cons_zero, List.set_cons_succ]
          refine Mix.at_take (i := 2) (v := ?_) rfl (by kernel_rfl) (by kernel_rfl) (by kernel_rfl) (by kernel_rfl) (by kernel_rfl) (by kernel_rfl) (by kernel_rfl) (fun _ _ _ h => h) (Or.inl ⟨by rfl, ?_⟩) hS1 ?_
          rotate_left
          · intro w hSw
            (try dsimp only at hSw)
            go_simp
            try (with_reducible rfl)
          simp only [Act.put, List.setIfInBounds_toArray, List.set_cons_zero, List.set_cons_succ]
          refine Mix.at_take (i := 3) (v := ?_) rfl (by kernel_rfl) (by kernel_rfl) (by kernel_rfl) (by kernel_rfl) (by kernel_rfl) (by kernel_rfl) (by kernel_rfl) (fun _ _ _ h => h) (Or.inl ⟨by rfl, ?_⟩) hS1 ?_
          rotate_left
          · intro w hSw
            (try dsimp only at hSw)
            go_simp
            try (with_reducible rfl)
          simp only [Act.put, List.setIfInBounds_toArray, List.set_cons_zero, List.set_cons_succ]
          have hrd := rd_drop (HR.out.1 w8 (Holds.sub H8.out (.cons _ (.cons _ (.cons _ (.cons _ (.cons _ (List.sublist_append_right _ _)))))))) HN.out.1 (three_of (by rw [← HN.out.1]; exact (ok_four HOKP.out).1)).2
          obtain ⟨A3, hA3⟩ : ∃ A3, (if c = 3 then A else Option.map (fun x => { block := x.block, off := x.off + 3 }) A) = A3 := ⟨_, rfl⟩
          rw [hA3] at hrd
          have hn3 := (three_of (by rw [← HN.out.1]; exact (ok_four HOKP.out).1 : 4 ≤ n)).1
          have HRD := Lib.hid hrd
          clear hrd
          refine Mix.at_take (i := 4) (v := .slice A3 (n - 3) (c - 3)) rfl (by kernel_rfl) (by kernel_rfl) (by kernel_rfl) (by kernel_rfl) (by kernel_rfl) (by kernel_rfl) (by kernel_rfl) (fun _ _ _ h => h) (Or.inl ⟨by rfl, ?_⟩) hS1 ?_
          · intro w hSw
            (try dsimp only at hSw)
            go_simp
            try (with_reducible rfl)
          simp only [Act.put, List.setIfInBounds_toArray, List.set_cons_zero, List.set_cons_succ]
          clear hn3 hA3
          refine Mix.at_step (i := 5) rfl (by kernel_rfl) (by kernel_rfl) (by rfl) ?_
          unfold Oper.wp
          go_simp
          refine (clone W B _ _ _ (n - 3) _ (H9.out.drewN 1) (HRD.out.drewN 1) (by rw [nums, List.length_map, List.length_drop, HN.out.1]) (nums_one _ _) (Nat.le_trans (Nat.sub_le _ _) (Nat.le_trans HR.out.2.2 (by decide)))).mono ?_
          rintro e' w9 ⟨vn, rfl, h10⟩
          refine ⟨h10.up1.cell 2 rfl, ?_⟩
          have h11 := Holds.sel [_, _, _, _, _, _, _] h10 [6, 0, 1, 2, 3, 4, 5] rfl
          simp only [pick, List.getElem?_cons_succ, List.getElem?_cons_zero, List.append_eq, List.cons_append, List.nil_append] at h11
          obtain ⟨o', hrun2, hmap⟩ := MapI.put HWX.out.1 map_keyed Try.underlying109 h11.ob (v := vn) (i := (x3 : Int)) (int_key (Int.natCast_nonneg _) (by have := HHD.out.l3; omega)) (few_ps HWX.out.2).2 HV.out
          have edr : n - 3 = (bs.drop 3).length := by rw [List.length_drop, HN.out.1]
          rw [edr] at h11
          obtain ⟨es, clk, hes⟩ : ∃ es clk, ob = .map es clk := by
            obtain ⟨es, clk, he, _⟩ := HWX.out.1
            exact ⟨es, clk, he⟩
          rw [hes] at h11
          have h12 := h11.setOb o'
          have hlen := MapI.len hmap Try.underlying109 h12.ob
          obtain ⟨q, hq⟩ : ∃ q, ((ps.map fun p => (p.1, p.2.1)) ++ [((x3 : Int), vn)]).length = q := ⟨_, rfl⟩
          rw [hq] at hlen
          have g2 := h12.up2.cell 2 rfl
          have g9' := h12.up3.cell 0 rfl
          generalize Go.ChangeMaps.setBlock w9 mb o' = w10 at *
          have H12 := Lib.hid h12
          have HMAP := Lib.hid hmap
          have hq1 : q = ps.length + 1 := by rw [← hq, List.length_append, List.length_map]; rfl
          have HQ := Lib.hid hq1
          clear h10 h11 h12 hmap edr hes hq hq1 hS1 HRD H9 H8 hrun
          by_cases hqn : q < nn
          · have tq : decide ((q : Int) < (nn : Int)) = true := dt (Int.ofNat_lt.2 hqn)
            have HQN := Lib.hid hqn
            refine Mix.at_tail _ rfl rfl (by kernel_rfl) ?_
            simp only [List.drop_succ_cons, List.drop_zero]
            go_wp2_with fail
            have hfa := feed_more (L1 := L1) (vn := vn) (o' := o') HFD.out.1 (HHD.out.good (fl_false HOKP.out HHD.out)).2 HNN.out.2 HV.out (by rw [← HQ.out]; exact HQN.out)
            have hz := Holds.sel [_, _, _, _, _, _, _] H12.out [5, 6, 0, 1] rfl
            simp only [pick, List.getElem?_cons_succ, List.getElem?_cons_zero, List.append_eq, List.cons_append, List.nil_append] at hz
            refine bodyPost_ret (results_tmp3 rfl _ _ _) rfl ⟨L1.set k ⟨xi, (nn : Int), mb, o', ps ++ [((x3 : Int), vn, bs.drop 3)]⟩, ?_, .inl ⟨?_, ?_, AS.put HLT.out.2 HW1.out HMAP.out hz⟩⟩
            · rw [hfa]
            · rw [hfa]
            · rw [hfa]; try rfl
          · have tq : decide ((q : Int) < (nn : Int)) = false := df (fun h => hqn (Int.ofNat_lt.1 h))
            have HQN := Lib.hid (show ¬ ps.length + 1 < nn by rw [← HQ.out]; exact hqn)
            have hwh := Whole.mk' (b := bs.drop 3) HMAP.out HWX.out.2 HV.out (by rw [List.length_drop]; have := (ok_four HOKP.out).2; omega)
            have HWH := Lib.hid hwh
            have hl4 : L1.length ≤ 1000 := by have := HFD.out.2.1; rw [List.length_map] at this; exact Nat.le_trans this (by decide)
            obtain ⟨k0, k1, k2, k3⟩ := fi_facts HLT.out.1 hl4
            have hz := Holds.sel [_, _, _, _, _, _, _] H12.out [6, 5, 0, 1, 2, 3, 4] rfl
            simp only [pick, List.getElem?_cons_succ, List.getElem?_cons_zero, List.append_eq, List.cons_append, List.nil_append] at hz
            have hmd := mdel W B w10 _ g1 cap1 ((L1.map MM.key).map mcells) L1.length k (mcells_three _) (by rw [List.length_map, List.length_map]) HLT.out.1 hl4 hz
            have r5 := hz.up1.cell 0 rfl
            have HMD := Lib.hid hmd
            clear hwh hmd hz hl4
            refine Mix.at_tail _ rfl rfl (by kernel_rfl) ?_
            simp only [List.drop_succ_cons, List.drop_zero]
            go_wp2_with fail
            refine HMD.out.mono ?_
            rintro e' w11 ⟨rfl, h13⟩
            have r0 := h13.up1.cell 0 rfl
            have rf := h13.up1.frozen 0
            have h14 := h13.up1.set 0 (.slice (some ⟨g1, 0, none⟩) (L1.length - 1 : Nat) cap1)
            simp only [List.set] at h14
            have hj := Join.start (at_ := (x3 : Int)) h14
            have HJ := Lib.hid hj
            have e9 : (w11.setCell ⟨a, 0, none⟩ (.slice (some ⟨g1, 0, none⟩) (L1.length - 1 : Nat) cap1)).cell? ⟨g9, 0, none⟩ = some (.int .i64 (nn : Int)) := hj.up3.cell 0 rfl
            clear h13 h14 hj H12 HMD k2 k3 hrun2 hlen g2 g9' r5 HMAP HWX HMM
            generalize hps : ps ++ [((x3 : Int), vn, bs.drop 3)] = pa at *
            go_upto_region 22 with (fail)
            generalize hnv : Value.slice (some ⟨g1, 0, none⟩) (L1.length - 1 : Nat) cap1 = nv at *
            generalize w11.setCell ⟨a, 0, none⟩ nv = w12 at *
            clear r0 rf k0 k1 tq
            obtain ⟨i0, hi, hz0, hz1, hz2⟩ := info_parts info_u8
            go_wp2_with fail
            go_loopw [16, 148] (fun ov i wr => ∃ j : Nat, Hid (j ≤ nn) ∧ i = .int .i64 j ∧ Hid (Join W B wr ov g13 g9 mb xi (nn : Int) o' pa j (rest8 g8 a (x1 : Int) nv L1 k F))) (fun _ i _ => nn - (intOf i).toNat)
            case atStart => exact ⟨0, Lib.hid (Nat.zero_le _), rfl, HJ⟩
            case round =>
              obtain ⟨j, HJN, rfl, HC⟩ := hrel
              clear HJ e9
              by_cases hjn : j < nn
              · have HLT2 := Lib.hid hjn
                have h14 := nn14 (HHD.out.l2) HNN.out.2
                obtain ⟨k0, k1, k2, k3⟩ := fi_facts hjn h14
                have e2 := HC.out.up1.cell 2 rfl
                have hlk := MapI.look false HWH.out.map map_keyed Try.underlying109 (zero_sl wr) (HC.out.up2.ob) (i := (j : Int)) (int_key k0 (Int.lt_of_lt_of_le k1 (Int.ofNat_le.2 h14)))
                clear hjn h14
                rcases hlk with ⟨v, hv, hrun⟩ | ⟨hno, hrun⟩
                · obtain ⟨⟨pj, pv, pb⟩, hp, he⟩ := List.mem_map.1 hv
                  simp only [Prod.mk.injEq] at he
                  obtain ⟨rfl, rfl⟩ := he
                  simp only [Bool.false_eq_true, if_false] at hrun
                  have hpt := HC.out.part hp
                  have hfi := find_in HWH.out.keys hp
                  have hfe := join_few HWH.out (j := j) (Nat.le_trans (Nat.le_of_lt HLT2.out) (nn14' (HHD.out.good (fl_false HOKP.out HHD.out)).2 HNN.out.2 HOKP.out)) hp
                  have HFI := Lib.hid hfi
                  have HFE := Lib.hid hfe
                  clear hv hp hfi hfe
                  rcases hpt with ⟨rfl, rfl⟩ | ⟨ad, cc, rfl, hcl⟩
                  · go_wp2_with (at_builtin; refine wpList_append_own_none rfl _ _ _ rfl B 5 i0 1 Try.underlying25 hi _ _ _ rfl HC.out.own rfl ?_)
                    exact ⟨⟨j + 1, Lib.hid HLT2.out, by go_num, Lib.hid (HC.out.stay HFI.out)⟩, fi_down HLT2.out⟩
                  · have HCL := Lib.hid hcl
                    clear hcl
                    go_wp2_with (at_builtin; refine wpList_append_many rfl _ _ _ rfl 5 i0 _ 1 1 Try.underlying25 hi hz0 hz1 hz2 rfl (by decide) rfl HC.out (nums .u8 pb) rfl (nums_len1 _) HCL.out (nums_one _ _) HFE.out (by decide) ?_)
                    intro v' w' h'
                    have HJ2 := Lib.hid (Join.next HFI.out h')
                    clear h'
                    go_wp2_with fail
                    exact ⟨⟨j + 1, Lib.hid HLT2.out, by go_num, HJ2⟩, fi_down HLT2.out⟩
                · simp only [Bool.false_eq_true, if_false] at hrun
                  have HFI := Lib.hid (find_out hno)
                  clear hno
                  go_wp2_with (at_builtin; refine wpList_append_own_none rfl _ _ _ rfl B 5 i0 1 Try.underlying25 hi _ _ _ rfl HC.out.own rfl ?_)
                  exact ⟨⟨j + 1, Lib.hid HLT2.out, by go_num, Lib.hid (HC.out.stay HFI.out)⟩, fi_down HLT2.out⟩
              · obtain rfl : j = nn := Nat.le_antisymm HJN.out (Nat.le_of_not_lt hjn)
                have k1 : ¬ (j : Int) < (j : Int) := Int.lt_irrefl _
                clear hjn
                go_wp2_with fail
                have hfa := feed_whole (L1 := L1) (vn := vn) HFD.out.1 (HHD.out.good (fl_false HOKP.out HHD.out)).2 HNN.out.2 HV.out HQN.out
                rw [hps] at hfa
                refine bodyPost_ret (results_tmp3 rfl _ _ _) rfl ⟨L1.eraseIdx k, ?_, .inr ⟨_, _, ?_, ?_, Join.done HLT.out.1 HW1.out HC.out⟩⟩
                · rw [hfa]
                · rw [hfa]; rfl
                · rw [hfa]; try rfl

end Go.Proofs.Ytpnnalkihcemhaa.Frag
