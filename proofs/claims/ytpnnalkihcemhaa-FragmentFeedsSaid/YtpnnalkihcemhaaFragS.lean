/- A message parted: fragment.Split. -/
import Derived.Test.YtpnnalkihcemhaaFragB
import Derived.Deep.RegionHeld3
import Derived.Deep.AppendLies
set_option linter.unusedVariables false
set_option linter.unusedSimpArgs false
namespace Go.Proofs.Ytpnnalkihcemhaa.Frag
open Go.Sort Go.RowKit Go.Proofs.Ytpnnalkihcemhaa.Mem Go.Proofs.Ytpnnalkihcemhaa.Bits Go.Proofs.Ytpnnalkihcemhaa.Wr Go.Proofs.Ytpnnalkihcemhaa.Num Go.Proofs.Ytpnnalkihcemhaa.Step Go.Proofs.YtpnnalkihcemhaaW.PrintWords

theorem info_sl : (Try.prog.info? 25).map (fun i => (i.zero, i.size, i.bytes)) = some (some (.slice none 0 0), 1, 24) := by kernel_rfl

theorem grew_lies {W w w' : World} {B : Nat} {F : List Ent} {v : Value} {e : TypeId} {size n n' g cap : Nat} {xs xs' : List Value} (h : Holds W B w (.rw v e size n xs :: F))
    (ho : w'.ownsRow B e size (.slice (some ⟨g, 0, none⟩) n' cap) n' xs') (hg : w.grownBy w' v.ownBlock) (hat : v.ownBlock = some g ∨ g = w.heap.size) :
    Holds W B w' (.rw (.slice (some ⟨g, 0, none⟩) n' cap) e size n' xs' :: F) := by
  refine h.grew ho hg ?_
  rcases hat with h1 | h1
  · exact .inl h1.symm
  · exact .inr ⟨g, rfl, by omega⟩

theorem part_cells {w w' : World} {b off n p q : Nat} {bs : List Int} (hr : ∀ i, i < n → ∃ b' off', some (⟨b, off, none⟩ : Addr) = some ⟨b', off', none⟩ ∧ b' < w.heap.size ∧ ∀ u, (nums .u8 bs)[i]? = some u → w.cell? ⟨b', off' + i, none⟩ = some u) (hl : bs.length = n)
    (hb : Below w.heap.size w w') : ∀ (j : Nat) (u : Value), (nums .u8 ((bs.drop p).take q))[j]? = some u → w'.cell? ((⟨b, off + p, none⟩ : Addr).add j) = some u := by
  intro j u hu
  have h1 : (nums .u8 bs)[p + j]? = some u := by
    simp only [nums, List.getElem?_map] at hu ⊢
    rw [List.getElem?_take] at hu
    split at hu
    · rwa [List.getElem?_drop] at hu
    · cases hu
  have hlt : p + j < n := by
    have := (List.getElem?_eq_some_iff.1 h1).1
    rw [nums_length] at this
    omega
  obtain ⟨b', off', hA, hb', hr⟩ := hr _ hlt
  obtain ⟨rfl, rfl⟩ := some_addr hA
  have h2 := (hb.cell (p := ⟨b, off + (p + j), none⟩) hb').trans (hr u h1)
  have e : ((⟨b, off + p, none⟩ : Addr).add j) = ⟨b, off + (p + j), none⟩ := by
    unfold Addr.add; split <;> simp_all [Nat.add_assoc]
  rwa [e]

theorem fb1 {m : Nat} (h : m ≤ 300) : 3 + m ≤ maxLen := by unfold maxLen; omega
theorem fb2 {m : Nat} (h : m ≤ 300) : (3 + m) * 1 ≤ 140737488355328 := by omega
theorem fb3 {k n : Nat} (h : k < n) (h2 : n ≤ 14) : k + 1 ≤ maxLen := by unfold maxLen; omega
theorem fb4 {k n : Nat} (h : k < n) (h2 : n ≤ 14) : (k + 1) * 24 ≤ 140737488355328 := by omega
theorem fk {k n q : Nat} (h : k < n) (h2 : n ≤ 14) (hq : 300 * k = q) : wrap64 ((k : Int) * 300) = (q : Int) ∧ wrap64 (((k : Int) + 1) * 300) = ((q + 300 : Nat) : Int) ∧ IntKind.i64.wrap ((k : Int) + 1) = (k : Int) + 1 ∧ (k : Int) * 300 = (q : Int) ∧ ((k : Int) + 1) * 300 = ((q + 300 : Nat) : Int) ∧ IntKind.i64.wrap (q : Int) = (q : Int) ∧ IntKind.i64.wrap ((q + 300 : Nat) : Int) = ((q + 300 : Nat) : Int) := by
  rw [wrap_i64, wrap_i64, wrap_i64]; unfold wrap64; omega
theorem fn {n : Nat} (h0 : 0 < n) (h2 : n ≤ 14) : wrap64 ((n : Int) - 1) = (n : Int) - 1 ∧ IntKind.i64.wrap ((n : Int) - 1) = (n : Int) - 1 ∧ IntKind.u64.wrap ((n : Int) - 1) = (n : Int) - 1 ∧ ((n : Int) - 1) % 18446744073709551616 = (n : Int) - 1 := by
  rw [wrap_i64, wrap_u64]; unfold wrap64; omega
theorem fk2 {k n : Nat} (h : k < n) (h2 : n ≤ 14) : IntKind.u64.wrap (k : Int) = (k : Int) ∧ (k : Int) % 18446744073709551616 = (k : Int) := by rw [wrap_u64]; omega
theorem fq {L q m r c s : Nat} (hm : m = min 300 (L - q)) (hq : q < L) (hL : L ≤ c) (hr : q + m = r) (hs : q + 300 = s) :
    (0 : Int) ≤ (q : Int) ∧ (q : Int) ≤ (r : Int) ∧ (r : Int) ≤ (c : Int) ∧ r - q = m ∧ ¬ c = q ∧ 0 < m ∧ (q + m ≤ L ∧ m ≤ 300) ∧ ((L : Int) < (s : Int) → r = L) ∧ (¬ (L : Int) < (s : Int) → r = s) := by omega
theorem fmin {L s r : Nat} (h1 : (L : Int) < (s : Int) → r = L) (h2 : ¬ (L : Int) < (s : Int) → r = s) : (if (L : Int) < (s : Int) then (L : Int) else (s : Int)) = (r : Int) := by
  split
  · rw [h1 (by assumption)]
  · rw [h2 (by assumption)]
theorem step_min {P : Program} (w : World) {ops : Array Oper} {o : Oper} {a : Act} {K : Act → World → Prop} {Q : Exit → Act → World → Prop} {E : Prop} (hgd : o.guard = none) (s x : Operand) (ts : Array TypeId)
    (ho : o.op = .call { callee := .builtin .min, args := #[s, x], argTypes := ts }) (p q r : Int) (hs : a.eval s = .int .i64 p) (hx : a.eval x = .int .i64 q) (hr : (if q < p then q else p) = r)
    (h : K (a.put o.dst (.int .i64 r)) w) : if Region.wanted o (yielded ops a.tmps) = true then Oper.wp P o a w K Q else E := by
  rw [if_pos (by simp [Region.wanted, hgd])]
  unfold Oper.wp execOp
  simp only [ho, resolve, invoke, builtin, Sem.run_bind, Sem.run_pure, Result.andThen_ok, List.map_toArray, List.map_cons, List.map_nil, hs, hx, run_min_int2, hr]
  exact h
theorem one_pos : 0 < 1 := by decide
theorem one_slice (A : Option Addr) (n c : Nat) : ∀ u ∈ [Value.slice A n c], u.oneCell' = true := by intro u hu; simp at hu; subst hu; rfl
theorem nums_one (k : IntKind) (xs : List Int) : ∀ u ∈ nums k xs, u.oneCell' = true := by
  intro u hu
  simp [nums] at hu
  obtain ⟨x, _, rfl⟩ := hu
  rfl

theorem fbytes (W : World) (B : Nat) (w : World) (b : Nat) (e : TypeId) (l : List Bool) (F : List Ent) (hw : HasW W B w b e l F) (hl : l.length = 24) :
    Calls Try.prog 29 #[.pointer (some ⟨b, 0, none⟩)] w fun e' w' => ∃ g c, e' = .returned (.slice (some ⟨g, 0, none⟩) 3 c) ∧ Holds W B w' (.rw (.slice (some ⟨g, 0, none⟩) 3 c) 5 1 3 (nums .u8 (pack l)) :: F) := by
  refine (Wr.bytes W B w b e l F hw (by omega)).mono ?_
  rintro e' w' ⟨v', rfl, v2, h⟩
  have hn : nby l = 3 := by unfold nby; omega
  rw [hn] at h
  obtain ⟨g, c, rfl, _⟩ := h.up2.row (by omega)
  exact ⟨g, c, rfl, h.tail.tail⟩

/-- The pieces of the parts. -/
def pieces (id : Int) (bs : List Int) (vs : List Value) : List Ent := vs.mapIdx fun i v => .rw v 5 1 (part id bs i).length (nums .u8 (part id bs i))
theorem pieces_snoc (id : Int) (bs : List Int) (vs : List Value) (v : Value) : pieces id bs (vs ++ [v]) = pieces id bs vs ++ [.rw v 5 1 (part id bs vs.length).length (nums .u8 (part id bs vs.length))] := by
  unfold pieces
  rw [List.mapIdx_concat]
/-- The parts so far. -/
def Parts (W : World) (B : Nat) (w : World) (out : Value) (id : Int) (bs : List Int) (k : Nat) : Prop :=
  ∃ (vs : List Value) (P : List Ent), vs.length = k ∧ Holds W B w (.rw out 25 1 k vs :: P) ∧ (∀ i, i < k → (∃ vi, vs[i]? = some vi ∧ Ent.rw vi 5 1 (part id bs i).length (nums .u8 (part id bs i)) ∈ P)) ∧ P.Perm (pieces id bs vs)

theorem parts_next {W : World} {B : Nat} {w : World} {out : Value} {id : Int} {bs : List Int} {k m : Nat} {vs : List Value} {P : List Ent} {v2 : Value} (hl : vs.length = k) (hm : m = ((bs.drop (300 * k)).take 300).length)
    (hp : (∀ i, i < k → (∃ vi, vs[i]? = some vi ∧ Ent.rw vi 5 1 (part id bs i).length (nums .u8 (part id bs i)) ∈ P)) ∧ P.Perm (pieces id bs vs)) {HB : List Bool} (hHB : HB = headB id (cnt bs.length) k)
    (h : Holds W B w (.rw out 25 1 (k + 1) (vs ++ [v2]) :: .rw v2 5 1 (3 + m) (nums .u8 (pack HB) ++ nums .u8 ((bs.drop (300 * k)).take 300)) :: P)) : Parts W B w out id bs (k + 1) := by
  subst hHB
  have e1 : part id bs k = pack (headB id (cnt bs.length) k) ++ (bs.drop (300 * k)).take 300 := rfl
  have e2 : (part id bs k).length = 3 + m := by
    rw [e1, List.length_append, hm, pack_length]
    unfold nby
    rw [headB_length]
  refine ⟨vs ++ [v2], _, by simp [hl], h, fun i hi => ?_, ?_⟩
  rotate_left
  · rw [pieces_snoc, hl, e2, e1, nums_append]
    exact (hp.2.cons _).trans (List.perm_append_singleton _ _).symm
  by_cases hik : i < k
  · obtain ⟨vi, h1, h2⟩ := hp.1 i hik
    refine ⟨vi, ?_, List.mem_cons_of_mem _ h2⟩
    rw [List.getElem?_append_left (by omega)]
    exact h1
  · obtain rfl : i = k := by omega
    refine ⟨v2, by rw [← hl]; simp, ?_⟩
    have e1 : part id bs i = pack (headB id (cnt bs.length) i) ++ (bs.drop (300 * i)).take 300 := rfl
    have e2 : (part id bs i).length = 3 + m := by
      rw [e1, List.length_append, hm, pack_length]
      unfold nby
      rw [headB_length]
    rw [e2, e1, nums_append]
    exact List.mem_cons_self ..

theorem parts_done {W w : World} {B : Nat} {out : Value} {id : Int} {bs : List Int} {k : Nat} (h : Parts W B w out id bs k) (hk : k = cnt bs.length) : RdS w out (splitL id bs) := by
  obtain ⟨vs, P, hl, h1, hp, _⟩ := h
  have e : k = (splitL id bs).length := by rw [splitL_length]; exact hk
  rw [e] at h1
  refine rdS_of h1 (hl.trans e) (e := 5) fun i xs hi => ?_
  have hlt := (List.getElem?_eq_some_iff.1 hi).1
  rw [← e] at hlt
  rw [splitL_get id bs i (by omega)] at hi
  cases hi
  exact hp i hlt

set_option maxHeartbeats 2000000 in
theorem fsplit_own (w : World) (idn : Int) (v : Value) (bs : List Int) (hi0 : 0 ≤ idn) (hi1 : idn < 65536) (hv : Rd w v bs.length (nums .u8 bs)) (h0 : 0 < bs.length) (h4 : bs.length ≤ 4000) :
    Calls Try.prog 15 #[.int .u16 idn, v] w fun e' w' => ∃ v', e' = .returned (.tuple #[v', .int .i64 0]) ∧ Parts w w.heap.size w' v' idn bs (cnt bs.length) := by
  obtain ⟨i0, hi, hz0, hz1, hz2⟩ := info_parts info_u8
  obtain ⟨j0, hj, hy0, hy1, hy2⟩ := info_parts info_sl
  obtain ⟨A, c, rfl, hc, hm, hr⟩ := Rd.form hv (nums_length _ _)
  obtain ⟨b, off, rfl, hlt, hc0⟩ := hr 0 h0
  clear hc0
  have HR := Lib.hid hr
  have HM := Lib.hid hm
  have tb : ((bs.length : Int) == 0) = false := beq_eq_false_iff_ne.2 (by omega)
  have tb2 : decide ((4000 : Int) < (bs.length : Int)) = false := by simp; omega
  have H0 := Lib.hid h0
  have H4 := Lib.hid h4
  have HCN := Lib.hid (cnt_max h4)
  have tu : IntKind.u64.wrap idn = idn := by rw [wrap_u64]; omega
  have tu2 : idn % 18446744073709551616 = idn := by omega
  clear hr hm hv
  go_enter Try.func15, Try.ntmps15
  go_wp2_with fail
  refine (fcount _ bs.length (by omega)).mono ?_
  rintro e' w1 ⟨rfl, rfl⟩
  obtain ⟨n, hn⟩ : ∃ n, cnt bs.length = n := ⟨_, rfl⟩
  have hn14 : n ≤ 14 := hn ▸ HCN.out
  rw [hn]
  have HN := Lib.hid hn
  have HN14 := Lib.hid hn14
  clear hn h0 h4 hn14
  go_wp2_with fail
  go_loopw [7, 22] (fun out i wr => ∃ k : Nat, k ≤ n ∧ i = .int .i64 k ∧ Parts w1 w1.heap.size wr out idn bs k) (fun _ i _ => n - (intOf i).toNat)
  case atStart => exact ⟨0, Nat.zero_le _, rfl, [], [], rfl, (Holds.start _).nilrow _ _, fun i hi => by omega, List.Perm.refl _⟩
  case round =>
    obtain ⟨k, hk, rfl, hP⟩ := hrel
    by_cases hkn : k < n
    · obtain ⟨vs, P, hvl, hH, hPP⟩ := hP
      have HPP := Lib.hid hPP
      have HVL := Lib.hid hvl
      obtain ⟨A7, c7, rfl⟩ := hH.slice
      have hfr := fresh hH 74
      have hp1 := put _ _ _ _ _ _ _ idn 16 hfr hi0 (by omega) (by decide) (by decide) (by decide)
      have HP1 := Lib.hid hp1
      have HTS := Lib.hid (succ_len k (show k < maxLen by have := HN14.out; unfold maxLen; omega))
      have hn14 := HN14.out
      obtain ⟨tk1, tk2, tk3, tk4⟩ := fn (Nat.lt_of_le_of_lt (Nat.zero_le _) hkn) hn14
      obtain ⟨tk5, tk6⟩ := fk2 hkn hn14
      clear hH hfr hp1 hPP hvl
      go_upto_region 11 with (fail)
      go_wp2_with fail
      refine HP1.out.mono ?_
      rintro e' w2 ⟨rfl, h2⟩
      have hp2 := put _ _ _ _ _ _ _ ((n : Int) - 1) 4 h2 (by omega) (by omega) (by decide) (by decide) (by rw [List.nil_append, bitsOf_length]; decide)
      have HP2 := Lib.hid hp2
      clear hp2 h2 HP1
      go_wp2_with fail
      refine HP2.out.mono ?_
      rintro e' w3 ⟨rfl, h3⟩
      have hp3 := put _ _ _ _ _ _ _ (k : Int) 4 h3 (by omega) (by omega) (by decide) (by decide) (by rw [List.nil_append, List.length_append, bitsOf_length, bitsOf_length]; decide)
      have HP3 := Lib.hid hp3
      clear hp3 h3 HP2
      go_wp2_with fail
      refine HP3.out.mono ?_
      rintro e' w4 ⟨rfl, h4⟩
      obtain ⟨HB, hHB⟩ : ∃ HB, headB idn n k = HB := ⟨_, rfl⟩
      rw [show ([] ++ bitsOf idn (16 : Int).toNat ++ bitsOf ((n : Int) - 1) (4 : Int).toNat ++ bitsOf (k : Int) (4 : Int).toNat) = HB from hHB] at h4
      obtain ⟨v4, h4⟩ := h4
      have hx4 : HasW _ _ w4.drew _ _ HB _ := ⟨v4, h4.drew⟩
      have HX := Lib.hid hx4
      have HHB := Lib.hid hHB
      have hHBl : HB.length = 24 := hHB ▸ headB_length idn n k
      have HHBL := Lib.hid hHBl
      clear h4 hx4 HP3 hHB hHBl
      have h14 := H4.out
      have hks : 300 * k < bs.length := cnt_lt (by rw [HN.out]; exact hkn)
      obtain ⟨q, hq⟩ : ∃ q, 300 * k = q := ⟨_, rfl⟩
      obtain ⟨m, hm⟩ : ∃ m, m = ((bs.drop (300 * k)).take 300).length := ⟨_, rfl⟩
      have hm1 : m = min 300 (bs.length - q) := by rw [hm, List.length_take, List.length_drop, hq]
      obtain ⟨s, hs⟩ : ∃ s, q + 300 = s := ⟨_, rfl⟩
      obtain ⟨r, hr⟩ : ∃ r, q + m = r := ⟨_, rfl⟩
      obtain ⟨tq, tr, tr3, tk7, tk8, wq, ws⟩ := fk hkn hn14 hq
      rw [hs] at tr tk8 ws
      obtain ⟨q0, q1, q2, q3, q4, q5, q6, q7, q8⟩ := fq hm1 (hq ▸ hks) hc hr hs
      have HM0 := Lib.hid q5
      have HQM := Lib.hid q6
      have HML : Hid ((nums .u8 ((bs.drop q).take 300)).length = m * 1) := by show (nums .u8 ((bs.drop q).take 300)).length = m * 1; rw [nums_length, hm, hq, Nat.mul_one]
      have HQ := Lib.hid hq
      have HMM := Lib.hid hm
      clear h14
      have HMIN := Lib.hid (fmin q7 q8)
      clear hs hr hm1 hm hq hks q5 q6 q7 q8
      go_upto_region 14 with (fail)
      have HPC : Hid (∀ wx, Below w1.heap.size w1 wx → ∀ (j : Nat) (u : Value), (nums .u8 ((bs.drop q).take 300))[j]? = some u → wx.cell? ((⟨b, off + q, none⟩ : Addr).add j) = some u) := fun wx hb => part_cells HR.out rfl hb
      have HB1 := Lib.hid (fb1 HQM.out.2)
      have HB2 := Lib.hid (fb2 HQM.out.2)
      have HB3 := Lib.hid (fb3 hkn HN14.out)
      have HB4 := Lib.hid (fb4 hkn HN14.out)
      go_region_held3 (fun _ => True) (trivial)
        (first
          | (go_at_call 29; with_reducible refine (fbytes _ _ _ _ _ _ _ HX.out HHBL.out).mono ?_; rintro e' wn ⟨g1, cp1, rfl, hx⟩; have HX := Lib.hid hx; clear hx)
          | (refine step_append_lies _ rfl (.tmp 42) (.tmp 52) 25 rfl w1.heap.size 5 i0 (.int .u8 0) 1 1 Try.underlying25 hi hz0 hz1 hz2 rfl one_pos _ 3 _ rfl HX.out.own ⟨b, off + q, none⟩ m (c - q) (nums .u8 ((bs.drop q).take 300)) rfl HML.out (HPC.out _ HX.out.below) (nums_one _ _) HM0.out HB1.out HB2.out HX.out.size _ rfl ?_; intro g2 cp2 wn ho hg hat hlt2; have hx := grew_lies HX.out ho hg hat; have HX := Lib.hid hx; clear hx ho hg hat hlt2)
          | (refine step_append_lies _ rfl (.tmp 40) (.tmp 54) 27 rfl w1.heap.size 25 j0 (.slice none 0 0) 1 24 Try.underlying27 hj hy0 hy1 hy2 rfl one_pos _ k _ rfl (HX.out.up1.own.alloc _) ⟨_, 0, none⟩ 1 1 [_] rfl rfl (cell_one_new _ _ _) (one_slice _ _ _) one_pos HB3.out HB4.out (HX.out.alloc' _).size _ rfl ?_; intro g3 cp3 wn ho hg hat hlt2; have hx := grew_lies (HX.out.alloc' _).up1 ho hg hat; have HX := Lib.hid hx; clear hx ho hg hat hlt2)
          | (refine step_min _ rfl (.tmp 48) (.tmp 50) _ rfl _ _ _ rfl rfl HMIN.out ?_)
          | fail)
      all_goals
        have hx := HX.out
        rw [← HQ.out] at hx
        have hN := parts_next HVL.out HMM.out HPP.out (by rw [HN.out]; exact HHB.out.symm) hx
        have HNN := Lib.hid hN
        clear hx hN HX
        go_wp2_with fail
        try rw [HTS.out]
        exact ⟨⟨k + 1, by omega, cast_succ k, HNN.out⟩, succ_less hkn⟩
    · obtain rfl : k = n := by omega
      have HD := Lib.hid hP
      clear hP
      go_wp2_with fail
      exact bodyPost_ret (results_tmp2 rfl _ _ _) rfl ⟨_, rfl, by rw [HN.out]; exact HD.out⟩
theorem fsplit_loop (w : World) (idn : Int) (v : Value) (bs : List Int) (hi0 : 0 ≤ idn) (hi1 : idn < 65536) (hv : Rd w v bs.length (nums .u8 bs)) (h0 : 0 < bs.length) (h4 : bs.length ≤ 4000) :
    Calls Try.prog 15 #[.int .u16 idn, v] w fun e' w' => ∃ v', e' = .returned (.tuple #[v', .int .i64 0]) ∧ Below w.heap.size w w' ∧ RdS w' v' (splitL idn bs) := by
  refine (fsplit_own w idn v bs hi0 hi1 hv h0 h4).mono ?_
  rintro e' w' ⟨v', rfl, h⟩
  have hd := parts_done h rfl
  obtain ⟨_, _, _, hb, _⟩ := h
  exact ⟨v', rfl, hb.below, hd⟩

end Go.Proofs.Ytpnnalkihcemhaa.Frag
