/- The reference's assembler, which keeps all parts, beside one that keeps messages: plain. -/
import Derived.Test.YtpnnalkihcemhaaFeedT
set_option linter.unusedVariables false
set_option linter.unusedSimpArgs false
namespace Go.Proofs.Ytpnnalkihcemhaa.Frag
open Go.RowKit Go.Proofs.Ytpnnalkihcemhaa.Mem Go.Proofs.Ytpnnalkihcemhaa.Bits Go.Proofs.Ytpnnalkihcemhaa.Wr Go.Proofs.YtpnnalkihcemhaaW.PrintWords

/-- A part that is kept. -/
structure RP where
  id : Int
  n : Int
  at_ : Int
  b : List Int
abbrev RP.key (p : RP) : Int × Int := (p.id, p.n)
def rpOf (bs : List Int) : RP := ⟨(headOf bs).id, (headOf bs).n, (headOf bs).at_, bs.drop 3⟩
def mineB (q p : RP) : Bool := q.id == p.id && q.n == p.n
theorem mineB_iff (q p : RP) : mineB q p = decide (q.key = p.key) := by
  unfold mineB RP.key
  rw [Bool.eq_iff_iff]
  simp

/-- The keys in the order in which they first come. -/
def addK (l : List (Int × Int)) (x : Int × Int) : List (Int × Int) := if x ∈ l then l else l ++ [x]
def keysOf (l : List (Int × Int)) : List (Int × Int) := l.foldl addK []
theorem keysOf_snoc (l : List (Int × Int)) (x : Int × Int) : keysOf (l ++ [x]) = addK (keysOf l) x := by unfold keysOf; rw [List.foldl_append]; rfl
theorem mem_addK (l : List (Int × Int)) (x y : Int × Int) : y ∈ addK l x ↔ y ∈ l ∨ y = x := by
  unfold addK
  split
  · rename_i h
    constructor
    · exact .inl
    · rintro (h1 | rfl)
      · exact h1
      · exact h
  · simp
theorem snoc_ind {α : Type} {P : List α → Prop} (h0 : P []) (h1 : ∀ l x, P l → P (l ++ [x])) (l : List α) : P l := by
  have : ∀ (n : Nat) (l : List α), l.length = n → P l := by
    intro n
    induction n with
    | zero => intro l hl; rw [List.eq_nil_of_length_eq_zero hl]; exact h0
    | succ n ih =>
      intro l hl
      have hne : l ≠ [] := by rintro rfl; simp at hl
      rw [← List.dropLast_concat_getLast hne]
      exact h1 _ _ (ih _ (by rw [List.length_dropLast]; omega))
  exact this _ l rfl
theorem mem_keysOf (l : List (Int × Int)) (y : Int × Int) : y ∈ keysOf l ↔ y ∈ l := by
  induction l using snoc_ind with
  | h0 => simp [keysOf]
  | h1 l x ih => rw [keysOf_snoc, mem_addK, ih]; simp
theorem nodup_keysOf (l : List (Int × Int)) : (keysOf l).Nodup := by
  induction l using snoc_ind with
  | h0 => simp [keysOf]
  | h1 l x ih =>
    rw [keysOf_snoc]
    unfold addK
    split
    · exact ih
    · rename_i h
      exact List.nodup_append.2 ⟨ih, by simp, fun a ha b hb => by
        rw [List.mem_singleton] at hb
        subst hb
        rintro rfl
        exact h ha⟩
theorem keysOf_filter (l : List (Int × Int)) (x : Int × Int) : keysOf (l.filter fun y => !decide (y = x)) = (keysOf l).filter fun y => !decide (y = x) := by
  induction l using snoc_ind with
  | h0 => rfl
  | h1 l y ih =>
    rw [List.filter_append, keysOf_snoc]
    by_cases hy : y = x
    · subst hy
      simp only [List.filter_cons, List.filter_nil, decide_true, Bool.not_true, Bool.false_eq_true, if_false, List.append_nil]
      rw [ih]
      unfold addK
      split
      · rfl
      · rw [List.filter_append]; simp
    · have e1 : List.filter (fun y => !decide (y = x)) [y] = [y] := by simp [hy]
      rw [e1, keysOf_snoc, ih]
      unfold addK
      by_cases hm : y ∈ keysOf l
      · rw [if_pos hm, if_pos (by rw [List.mem_filter]; exact ⟨hm, by simp [hy]⟩)]
      · rw [if_neg hm, if_neg (fun h => hm (List.mem_filter.1 h).1), List.filter_append, e1]
theorem addK_prefix (p l : List (Int × Int)) (x : Int × Int) (h : ∃ t, l = p ++ t) : ∃ t, addK l x = p ++ t := by
  obtain ⟨t, rfl⟩ := h
  unfold addK
  split
  · exact ⟨t, rfl⟩
  · exact ⟨t ++ [x], by rw [List.append_assoc]⟩
theorem keysOf_head (x : Int × Int) (l : List (Int × Int)) : ∃ t, keysOf (x :: l) = x :: t := by
  have : ∀ (l p : List (Int × Int)), (∃ t, p = [x] ++ t) → ∃ t, l.foldl addK p = [x] ++ t := by
    intro l
    induction l with
    | nil => intro p h; exact h
    | cons y l ih => intro p h; exact ih _ (addK_prefix _ _ _ h)
  exact this l _ ⟨[], by simp [addK]⟩

/-- The parts of a message, and all messages. -/
def partsK (R : List RP) (k : Int × Int) : List (Int × List Int) := (R.filter fun q => decide (q.key = k)).map fun q => (q.at_, q.b)
def msgK (R : List RP) (k : Int × Int) : Msg := ⟨k.1, k.2, partsK R k⟩
def grp (R : List RP) : List Msg := (keysOf (R.map RP.key)).map (msgK R)
/-- How many messages wait: the parts of which none of the same message came before. -/
def waitsR (R : List RP) : Nat := (keysOf (R.map RP.key)).length
theorem waits_grp (R : List RP) : (grp R).length = waitsR R := by unfold grp waitsR; rw [List.length_map]
def dropR (R : List RP) (p : RP) : List RP := R.filter fun q => !decide (q.key = p.key)
def outR (R : List RP) (p : RP) : List Int := (List.range p.n.toNat).flatMap fun (i : Nat) => R.flatMap fun q => if mineB q p && q.at_ == (i : Int) then q.b else []
def refA (R : List RP) (bs : List Int) : List RP × Ans :=
  if okPart bs = false then (R, ⟨none, 2⟩)
  else if (R.any fun q => mineB q (rpOf bs) && q.at_ == (rpOf bs).at_) then (R, ⟨none, 8⟩)
  else
    let c := R.countP fun q => mineB q (rpOf bs)
    let R1 := if c = 0 ∧ waitsR R = 4 then dropR R (R.headD (rpOf bs)) else R
    if (c : Int) + 1 < (rpOf bs).n then (R1 ++ [rpOf bs], ⟨none, 0⟩)
    else (dropR (R1 ++ [rpOf bs]) (rpOf bs), ⟨some (outR (R1 ++ [rpOf bs]) (rpOf bs)), 0⟩)

theorem partsK_len (R : List RP) (p : RP) : (partsK R p.key).length = R.countP fun q => mineB q p := by
  unfold partsK
  rw [List.length_map, ← List.countP_eq_length_filter]
  congr 1
  funext q
  rw [mineB_iff]
theorem partsK_snoc (R : List RP) (p : RP) (k : Int × Int) : partsK (R ++ [p]) k = partsK R k ++ if p.key = k then [(p.at_, p.b)] else [] := by
  unfold partsK
  rw [List.filter_append, List.map_append]
  congr 1
  by_cases h : p.key = k
  · rw [if_pos h]; simp [h]
  · rw [if_neg h]; simp [h]
theorem partsK_drop (R : List RP) (p : RP) (k : Int × Int) (h : k ≠ p.key) : partsK (dropR R p) k = partsK R k := by
  unfold partsK dropR
  rw [List.filter_filter]
  congr 1
  refine List.filter_congr fun q _ => ?_
  by_cases hq : q.key = k
  · have : q.key ≠ p.key := by rw [hq]; exact h
    simp [hq, h]
  · simp [hq]
theorem keys_drop (R : List RP) (p : RP) : keysOf ((dropR R p).map RP.key) = (keysOf (R.map RP.key)).filter fun y => !decide (y = p.key) := by
  rw [← keysOf_filter]
  unfold dropR
  congr 1
  rw [List.filter_map]
  rfl
theorem isMsg_msgK (bs : List Int) (R : List RP) (k : Int × Int) : isMsg (headOf bs) (msgK R k) = decide (k = (rpOf bs).key) := by
  unfold isMsg isM msgK rpOf RP.key
  rw [Bool.eq_iff_iff]
  obtain ⟨a, b⟩ := k
  simp
theorem any_parts (R : List RP) (p : RP) : ((partsK R p.key).any fun x => x.1 == p.at_) = R.any fun q => mineB q p && q.at_ == p.at_ := by
  rw [Bool.eq_iff_iff, List.any_eq_true, List.any_eq_true]
  constructor
  · rintro ⟨x, hx, he⟩
    obtain ⟨q, hq, rfl⟩ := List.mem_map.1 hx
    obtain ⟨h1, h2⟩ := List.mem_filter.1 hq
    exact ⟨q, h1, by rw [mineB_iff, h2]; simpa using he⟩
  · rintro ⟨q, hq, he⟩
    rw [Bool.and_eq_true, mineB_iff] at he
    exact ⟨(q.at_, q.b), List.mem_map.2 ⟨q, List.mem_filter.2 ⟨hq, he.1⟩, rfl⟩, he.2⟩
/-- A part's bytes, found by its place. -/
theorem find_parts {ps : List (Int × List Int)} (h : (ps.map (·.1)).Nodup) (i : Int) : ps.flatMap (fun p => if p.1 == i then p.2 else []) = ((ps.find? fun p => p.1 == i).map (·.2)).getD [] := by
  induction ps with
  | nil => rfl
  | cons p ps ih =>
    rw [List.map_cons, List.nodup_cons] at h
    rw [List.flatMap_cons, List.find?_cons, ih h.2]
    by_cases hp : (p.1 == i) = true
    · have hn : (ps.find? fun p => p.1 == i) = none := by
        rw [List.find?_eq_none]
        intro q hq he
        refine h.1 (List.mem_map.2 ⟨q, hq, ?_⟩)
        rw [beq_iff_eq.1 he, beq_iff_eq.1 hp]
      simp [hp, hn]
    · have hf : (p.1 == i) = false := by simpa using hp
      simp [hf]
theorem flat_parts (R : List RP) (p : RP) (i : Int) : (R.flatMap fun q => if mineB q p && q.at_ == i then q.b else []) = (partsK R p.key).flatMap fun x => if x.1 == i then x.2 else [] := by
  unfold partsK
  induction R with
  | nil => rfl
  | cons q R ih =>
    rw [List.flatMap_cons, ih, mineB_iff, List.filter_cons]
    by_cases h : q.key = p.key
    · simp [h]
    · simp [h]
theorem outR_joined (R : List RP) (p : RP) (h : ((partsK R p.key).map (·.1)).Nodup) : outR R p = joined (partsK R p.key) p.n.toNat := by
  unfold outR joined
  exact flatMap_same fun i _ => by rw [flat_parts, find_parts h]

/-- The two answer the same; what the one keeps is what the other keeps, by messages. -/
theorem ref_same {R : List RP} {bs : List Int} (hall : AllOk (grp R)) : feedA (grp R) bs = (grp (refA R bs).1, (refA R bs).2) := by
  by_cases hok : okPart bs = true
  · have hnk : ¬ okPart bs = false := by rw [hok]; decide
    have hn0 : (rpOf bs).n.toNat = (headOf bs).n := by unfold rpOf; simp
    unfold refA
    rw [if_neg hnk]
    by_cases hx : (rpOf bs).key ∈ keysOf (R.map RP.key)
    · obtain ⟨K1, K2, hK⟩ := List.append_of_mem hx
      have hnd := nodup_keysOf (R.map RP.key)
      rw [hK] at hnd
      have hd := List.nodup_append.1 hnd
      have hK1 : ∀ k ∈ K1, k ≠ (rpOf bs).key := fun k hk => hd.2.2 k hk _ (by simp)
      have hK2 : ∀ k ∈ K2, k ≠ (rpOf bs).key := fun k hk e => (List.nodup_cons.1 hd.2.1).1 (e ▸ hk)
      have hg : grp R = K1.map (msgK R) ++ msgK R (rpOf bs).key :: K2.map (msgK R) := by unfold grp; rw [hK]; simp
      have hmo := hall.2 (msgK R (rpOf bs).key) (by rw [hg]; simp)
      have hfs := feedA_split (l1 := K1.map (msgK R)) (l2 := K2.map (msgK R)) (m := msgK R (rpOf bs).key) hok (fun y hy => by
        obtain ⟨k, hk, rfl⟩ := List.mem_map.1 hy
        rw [isMsg_msgK, decide_eq_false (hK1 k hk)]) (by rw [isMsg_msgK]; simp)
      rw [← hg] at hfs
      rw [hfs]
      have ha : ((msgK R (rpOf bs).key).ps.any fun p => p.1 == ((headOf bs).at_ : Int)) = R.any fun q => mineB q (rpOf bs) && q.at_ == (rpOf bs).at_ := any_parts R (rpOf bs)
      rw [ha]
      by_cases hany : (R.any fun q => mineB q (rpOf bs) && q.at_ == (rpOf bs).at_) = true
      · rw [if_pos hany, if_pos hany]
      · rw [if_neg hany, if_neg hany]
        have hc : (msgK R (rpOf bs).key).ps.length = R.countP fun q => mineB q (rpOf bs) := partsK_len R (rpOf bs)
        have hc0 : (R.countP fun q => mineB q (rpOf bs)) ≠ 0 := by
          rw [← hc]
          intro h0
          obtain ⟨q, hq, he⟩ := List.mem_map.1 ((mem_keysOf _ _).1 hx)
          have : (q.at_, q.b) ∈ partsK R (rpOf bs).key := List.mem_map.2 ⟨q, List.mem_filter.2 ⟨hq, by simpa using he⟩, rfl⟩
          rw [show partsK R (rpOf bs).key = [] from List.eq_nil_of_length_eq_zero h0] at this
          cases this
        simp only [if_neg (fun h => hc0 h.1 : ¬ ((R.countP fun q => mineB q (rpOf bs)) = 0 ∧ waitsR R = 4))]
        rw [hc]
        have hks : keysOf ((R ++ [rpOf bs]).map RP.key) = K1 ++ (rpOf bs).key :: K2 := by
          rw [List.map_append, List.map_cons, List.map_nil, keysOf_snoc]
          unfold addK
          rw [if_pos hx, hK]
        have hm1 : ∀ k, k ≠ (rpOf bs).key → msgK (R ++ [rpOf bs]) k = msgK R k := fun k hk => by
          unfold msgK
          rw [partsK_snoc, if_neg (Ne.symm hk), List.append_nil]
        have hm2 : msgK (R ++ [rpOf bs]) (rpOf bs).key = ⟨(rpOf bs).key.1, (rpOf bs).key.2, partsK R (rpOf bs).key ++ [((rpOf bs).at_, (rpOf bs).b)]⟩ := by
          unfold msgK
          rw [partsK_snoc, if_pos rfl]
        have hmk1 : K1.map (msgK (R ++ [rpOf bs])) = K1.map (msgK R) := List.map_congr_left fun k hk => hm1 k (hK1 k hk)
        have hmk2 : K2.map (msgK (R ++ [rpOf bs])) = K2.map (msgK R) := List.map_congr_left fun k hk => hm1 k (hK2 k hk)
        have hnn : (rpOf bs).n = ((headOf bs).n : Int) := rfl
        by_cases hlt : (R.countP fun q => mineB q (rpOf bs)) + 1 < (headOf bs).n
        · rw [if_pos hlt, if_pos (by rw [hnn]; omega)]
          unfold grp
          rw [hks, List.map_append, List.map_cons, hmk1, hmk2, hm2]
          rfl
        · rw [if_neg hlt, if_neg (by rw [hnn]; omega)]
          have hgd : grp (dropR (R ++ [rpOf bs]) (rpOf bs)) = K1.map (msgK R) ++ K2.map (msgK R) := by
            unfold grp
            rw [keys_drop, hks, List.filter_append, List.filter_cons]
            have f1 : K1.filter (fun y => !decide (y = (rpOf bs).key)) = K1 := List.filter_eq_self.2 fun k hk => by simp [hK1 k hk]
            have f2 : K2.filter (fun y => !decide (y = (rpOf bs).key)) = K2 := List.filter_eq_self.2 fun k hk => by simp [hK2 k hk]
            rw [f1, f2]
            simp only [decide_true, Bool.not_true, Bool.false_eq_true, if_false]
            rw [List.map_append]
            congr 1
            · exact List.map_congr_left fun k hk => by
                unfold msgK
                rw [partsK_drop _ _ _ (hK1 k hk), partsK_snoc, if_neg (Ne.symm (hK1 k hk)), List.append_nil]
            · exact List.map_congr_left fun k hk => by
                unfold msgK
                rw [partsK_drop _ _ _ (hK2 k hk), partsK_snoc, if_neg (Ne.symm (hK2 k hk)), List.append_nil]
          have hnd2 : ((partsK (R ++ [rpOf bs]) (rpOf bs).key).map (·.1)).Nodup := by
            rw [partsK_snoc, if_pos rfl, List.map_append]
            refine List.nodup_append.2 ⟨hmo.keys, by simp, fun a ha2 b hb => ?_⟩
            simp only [List.map_cons, List.map_nil, List.mem_singleton] at hb
            subst hb
            rintro rfl
            exact not_any (fun h => hany (by rw [← any_parts]; exact h)) ha2
          rw [outR_joined _ _ hnd2, partsK_snoc, if_pos rfl, hgd, hn0]
          rfl
    · have hg1 : ∀ y ∈ grp R, isMsg (headOf bs) y = false := by
        intro y hy
        obtain ⟨k, hk, rfl⟩ := List.mem_map.1 hy
        rw [isMsg_msgK, decide_eq_false (fun (e : k = (rpOf bs).key) => hx (by rw [← e]; exact hk))]
      have hno : ∀ q ∈ R, q.key ≠ (rpOf bs).key := fun q hq e => hx ((mem_keysOf _ _).2 (e ▸ List.mem_map.2 ⟨q, hq, rfl⟩))
      have hany : ¬ (R.any fun q => mineB q (rpOf bs) && q.at_ == (rpOf bs).at_) = true := by
        rw [List.any_eq_true]
        rintro ⟨q, hq, he⟩
        rw [Bool.and_eq_true, mineB_iff, decide_eq_true_eq] at he
        exact hno q hq he.1
      have hc : (R.countP fun q => mineB q (rpOf bs)) = 0 := by
        rw [List.countP_eq_zero]
        intro q hq
        rw [mineB_iff]
        simpa using hno q hq
      rw [if_neg hany, feedA_new hok hg1]
      simp only [hc, true_and]
      obtain ⟨R1, hR1⟩ : ∃ R1, (if waitsR R = 4 then dropR R (R.headD (rpOf bs)) else R) = R1 := ⟨_, rfl⟩
      rw [hR1]
      have hsub : ∀ q ∈ R1, q.key ≠ (rpOf bs).key := by
        rw [← hR1]
        intro q hq
        split at hq
        · exact hno q (List.mem_filter.1 hq).1
        · exact hno q hq
      have hrm : roomed (grp R) = grp R1 := by
        rw [← hR1]
        unfold roomed
        rw [waits_grp]
        by_cases h4 : waitsR R = 4
        · rw [if_pos h4, if_pos h4]
          cases R with
          | nil => simp [waitsR, keysOf] at h4
          | cons q R =>
            obtain ⟨t, ht⟩ := keysOf_head q.key (R.map RP.key)
            have hnd := nodup_keysOf ((q :: R).map RP.key)
            rw [List.map_cons, ht] at hnd
            have htn : ∀ k ∈ t, k ≠ q.key := fun k hk e => (List.nodup_cons.1 hnd).1 (e ▸ hk)
            unfold grp
            rw [List.headD_cons, keys_drop, List.map_cons, ht, List.map_cons, List.drop_succ_cons, List.drop_zero, List.filter_cons]
            have f2 : t.filter (fun y => !decide (y = q.key)) = t := List.filter_eq_self.2 fun k hk => by simp [htn k hk]
            rw [f2]
            simp only [decide_true, Bool.not_true, Bool.false_eq_true, if_false]
            exact List.map_congr_left fun k hk => by
              unfold msgK
              rw [partsK_drop _ _ _ (htn k hk)]
        · rw [if_neg h4, if_neg h4]
      have hks : keysOf ((R1 ++ [rpOf bs]).map RP.key) = keysOf (R1.map RP.key) ++ [(rpOf bs).key] := by
        rw [List.map_append, List.map_cons, List.map_nil, keysOf_snoc]
        unfold addK
        rw [if_neg (fun h => by
          obtain ⟨q, hq, he⟩ := List.mem_map.1 ((mem_keysOf _ _).1 h)
          exact hsub q hq he)]
      have hp0 : partsK R1 (rpOf bs).key = [] := by
        unfold partsK
        rw [List.filter_eq_nil_iff.2 (fun q hq => by rw [decide_eq_false (hsub q hq)]; decide)]
        rfl
      have hp1 : partsK (R1 ++ [rpOf bs]) (rpOf bs).key = [((rpOf bs).at_, (rpOf bs).b)] := by rw [partsK_snoc, if_pos rfl, hp0]; rfl
      have hne : ∀ k ∈ keysOf (R1.map RP.key), k ≠ (rpOf bs).key := fun k hk e => by
        obtain ⟨q, hq, he⟩ := List.mem_map.1 ((mem_keysOf _ _).1 hk)
        exact hsub q hq (he.trans e)
      have hm1 : (keysOf (R1.map RP.key)).map (msgK (R1 ++ [rpOf bs])) = grp R1 := List.map_congr_left fun k hk => by
        unfold msgK
        rw [partsK_snoc, if_neg (Ne.symm (hne k hk)), List.append_nil]
      have hnn : (rpOf bs).n = ((headOf bs).n : Int) := rfl
      rw [hrm]
      by_cases hlt : 1 < (headOf bs).n
      · rw [if_pos hlt, if_pos (by rw [hnn]; omega)]
        have : grp (R1 ++ [rpOf bs]) = grp R1 ++ [msgK (R1 ++ [rpOf bs]) (rpOf bs).key] := by
          show (keysOf ((R1 ++ [rpOf bs]).map RP.key)).map (msgK (R1 ++ [rpOf bs])) = _
          rw [hks, List.map_append, hm1]
          rfl
        rw [this]
        unfold msgK
        rw [hp1]
        rfl
      · rw [if_neg hlt, if_neg (by rw [hnn]; omega)]
        have hgd : grp (dropR (R1 ++ [rpOf bs]) (rpOf bs)) = grp R1 := by
          have : dropR (R1 ++ [rpOf bs]) (rpOf bs) = R1 := by
            unfold dropR
            rw [List.filter_append, List.filter_eq_self.2 (fun q hq => by rw [decide_eq_false (hsub q hq)]; rfl)]
            simp
          rw [this]
        rw [hgd, outR_joined _ _ (by rw [hp1]; simp), hp1, hn0]
        rfl
  · have hf : okPart bs = false := by simpa using hok
    unfold refA feedA
    rw [if_pos hf, if_pos hf]
theorem refA_len (R : List RP) (bs : List Int) : (refA R bs).1.length ≤ R.length + 1 := by
  unfold refA
  split
  · exact Nat.le_succ _
  · split
    · exact Nat.le_succ _
    · simp only
      have h1 : ∀ p : RP, (dropR R p).length ≤ R.length := fun p => List.length_filter_le _ _
      have h2 : ∀ (c : Prop) [Decidable c] (p : RP), (if c then dropR R p else R).length ≤ R.length := fun c _ p => by split; exact h1 p; exact Nat.le_refl _
      split
      · rw [List.length_append]; exact Nat.add_le_add_right (h2 _ _) 1
      · refine Nat.le_trans (List.length_filter_le _ _) ?_
        rw [List.length_append]; exact Nat.add_le_add_right (h2 _ _) 1

end Go.Proofs.Ytpnnalkihcemhaa.Frag
