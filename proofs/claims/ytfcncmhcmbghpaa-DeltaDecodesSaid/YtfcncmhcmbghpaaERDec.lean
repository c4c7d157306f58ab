/- A delta read, of whatever bytes; by the reference. -/
import Derived.Test.YtfcncmhcmbghpaaERTake
import Derived.Test.YtfcncmhcmbghpaaEDec
import Derived.Test.YtfcncmhcmbghpaaEREnc
set_option linter.unusedVariables false
set_option linter.unusedSimpArgs false
namespace Go.Proofs.Ytfcncmhcmbghpaa.Ents
open Go.Sort Go.RowKit Go.Proofs.Ytfcncmhcmbghpaa.Mem Go.Proofs.Ytfcncmhcmbghpaa.Open Go.Proofs.Ytfcncmhcmbghpaa.Num Go.Proofs.Ytfcncmhcmbghpaa.Step Go.Proofs.Ytfcncmhcmbghpaa.Wr Go.Proofs.Ytfcncmhcmbghpaa.Bits Go.Proofs.Ytfcncmhcmbghpaa.RRd Go.Proofs.YtfcncmhcmbghpaaW.PrintWords

theorem k16 {j k : Nat} (h : k = j + 1) (hj : j < 16) : (0 : Int) ≤ (k : Int) ∧ (k : Int) < 17 ∧ (k : Int) ≤ 16 ∧ wrap64 ((k : Int) + 1) = (k : Int) + 1 ∧ k < 17 := by unfold wrap64; omega
theorem dec_short' {base : List Enty} {BS : List Int} (h : (bitsB BS).length < 0 + 16) : dec base BS = none := dec_short (by rw [bitsB_length] at h; omega)
theorem told17 {ts : List Bool} {j k : Nat} (hk : k = j + 1) (h : ts.length = j) : (false :: ts).length = k := by rw [hk, List.length_cons, h]
theorem there_at {ts : List Bool} {j k : Nat} (hk : k = j + 1) (h : j < ts.length) : (bools (false :: ts))[k]? = some (.bool (ts.getD j false)) := by
  subst hk
  refine bools_at ?_
  rw [List.getElem?_cons_succ, List.getD_eq_getElem?_getD, List.getElem?_eq_getElem h]
  rfl
theorem len64 {BS : List Int} (h : BS.length ≤ 100000000) : (bitsB BS).length ≤ 1000000000 := by rw [bitsB_length]; omega

set_option maxHeartbeats 4000000 in
theorem erdec (w : World) (vb v : Value) (base : List Enty) (BS : List Int) (hvb : RdL w vb 8 (base.map Enty.cells)) (hv : Rd w v BS.length (nums .u8 BS)) (hbk : bytesOk BS) (hb : listB base = true) :
    Calls Try.prog 33 #[vb, v] w fun e' w' =>
      (∃ m v', dec base BS = some m ∧ e' = .returned (.tuple #[v', .int .i64 0]) ∧ Holds w w.heap.size w' [.rw v' 29 8 m.length (cellsL m)]) ∨
      (dec base BS = none ∧ e' = .returned (.tuple #[.slice none 0 0, .int .i64 2]) ∧ Below w.heap.size w w') := by
  obtain ⟨i0, hi, hz0, hz1, hz2⟩ := info_parts info_ent'
  have HVB := Lib.hid hvb
  have h1 := erlist w vb base hvb
  rw [hb] at h1
  have H1 := Lib.hid h1
  have HV := Lib.hid hv
  have HBK := Lib.hid hbk
  have HLL := Lib.hid (len64 hbk.1)
  clear hvb h1 hv hbk hb
  go_enter Try.func33, Try.ntmps33
  go_wp2_with fail
  refine H1.out.mono ?_
  rintro e' w1 ⟨rfl, h2⟩
  have hn := rrnew w w1 [.rw (.slice none 0 0) 29 8 0 []] v BS ((hbelowed (Holds.start w) h2).nilrow 29 8) HV.out HBK.out
  have HN := Lib.hid hn
  clear h2 hn H1
  go_wp2_with fail
  refine HN.out.mono ?_
  rintro e' w2 ⟨b1, rfl, v2, h3⟩
  obtain ⟨L, hLL⟩ : ∃ L, bitsB BS = L := ⟨_, rfl⟩
  rw [hLL] at h3 HLL
  have h4 := holds_at (cs := bools ((false :: ([] : List Bool)) ++ List.replicate (17 - 1) false)) (e := 81) h3 (show w2.heap.size = w2.heap.size from rfl)
  have hR : HasRR w w.heap.size _ b1 L 0 false (.st w2.heap.size (bools ((false :: ([] : List Bool)) ++ List.replicate (17 - 1) false)) 81 :: .rw (.slice none 0 0) 29 8 0 [] :: []) := ⟨v2, h4.up2.up2⟩
  have HR := Lib.hid hR
  have HLB := Lib.hid hLL
  clear h3 h4 hR HN hLL
  go_wp2_with fail
  obtain ⟨bt, hbt⟩ : ∃ bt, w2.heap.size = bt := ⟨_, rfl⟩
  rw [hbt] at HR ⊢
  clear hbt
  go_loopw [8] (fun iv wr => ∃ j k : Nat, k = j + 1 ∧ j ≤ 16 ∧ iv = .int .i64 k ∧ ∃ (a : Nat) (fl : Bool) (ts : List Bool), ts.length = j ∧ a ≤ L.length ∧ Hid (Told L 0 16 j false fl a ts) ∧
      HasRR w w.heap.size wr b1 L a fl (.st bt (bools ((false :: ts) ++ List.replicate (17 - k) false)) 81 :: .rw (.slice none 0 0) 29 8 0 [] :: [])) (fun iv _ => 17 - (intOf iv).toNat)
  case atStart => exact ⟨0, 1, rfl, by decide, rfl, 0, false, [], rfl, Nat.zero_le _, Lib.hid (.inl ⟨rfl, rfl, rfl, Nat.zero_le _, rfl⟩), HR.out⟩
  case round =>
    obtain ⟨j, k, hjk, hj, rfl, a, fl, ts, hts, ha, HTD, hR⟩ := hrel
    clear HR
    by_cases hjn : j < 16
    · obtain ⟨k0, k1, k2, k3, k4⟩ := k16 hjk hjn
      have HK := Lib.hid k3
      have ht := rrtake w w.heap.size wr b1 L a fl _ 1 hR ha HLL.out (by decide)
      rw [show ((1 : Nat) : Int) = 1 from rfl] at ht
      have HT := Lib.hid ht
      have HTS := Lib.hid hts
      have HJK := Lib.hid hjk
      have HK4 := Lib.hid k4
      clear ht hR k3 hts hjk k4
      go_wp2_with fail
      refine HT.out.mono ?_
      rintro e' w3 ⟨x, a', fl2, rfl, h1, ha', _, hc⟩
      obtain ⟨t, htv⟩ : ∃ t, ((x : Int) == 1) = t := ⟨_, rfl⟩
      have htd := told_next HTD.out hjn ha' hc htv
      have c0 := HasRR.cell2 h1 k (told_get (false :: ts) 17 k (told17 HJK.out HTS.out) HK4.out)
      have f0 := HasRR.frozen2 h1 k
      obtain ⟨v1, h1⟩ := h1
      have h2 := h1.up2.set k (.bool t)
      rw [told_set (false :: ts) 17 k t (told17 HJK.out HTS.out) HK4.out] at h2
      have H2 := Lib.hid h2.up2.up2
      have HD := Lib.hid htd
      clear h1 h2 htd hc HT HTD
      go_wp2_with fail
      try rw [HK.out]
      exact ⟨⟨j + 1, k + 1, by rw [HJK.out], hjn, cast_succ k, a', fl2, ts ++ [t], by rw [List.length_append, HTS.out]; rfl, ha', HD, v1, H2.out⟩, succ_less HK4.out⟩
    · obtain rfl : j = 16 := Nat.le_antisymm hj (Nat.le_of_not_lt hjn)
      obtain rfl : k = 17 := hjk
      rw [show (false :: ts) ++ List.replicate (17 - 17) false = false :: ts by simp] at hR
      have HR := Lib.hid hR
      have HTS := Lib.hid hts
      clear hR hts hj hjn
      rw [show ((17 : Nat) : Int) = 17 from rfl]
      go_wp2_with fail
      go_loopw [9, 10] (fun vo iv wr => ∃ j k : Nat, k = j + 1 ∧ j ≤ 16 ∧ iv = .int .i64 k ∧ ∃ (b n : Nat) (m0 : List Enty), m0.length ≤ j ∧ b ≤ L.length ∧ Hid (b = a + n) ∧
          Hid (DL (decL base (idsFrom 1 ts) (L.drop a)) base (idsFrom (k : Int) (ts.drop j)) ((L.drop a).drop n) m0 n) ∧
          HasRR w w.heap.size wr b1 L b fl (.st bt (bools (false :: ts)) 81 :: .rw vo 29 8 m0.length (cellsL m0) :: []))
        (fun _ iv _ => 17 - (intOf iv).toNat)
      case atStart => exact ⟨0, 1, rfl, by decide, rfl, a, 0, [], Nat.le_refl _, ha, rfl, dl_start _ _ _, HR.out⟩
      case round =>
        obtain ⟨j, k, hjk, hj, rfl, b, n, m0, hm0, hb, HBN, HDL, hR⟩ := hrel
        clear HR
        by_cases hjn : j < 16
        · obtain ⟨k0, k1, k2, k3, k4⟩ := k16 hjk hjn
          have HT9 := Lib.hid k3
          have HJK := Lib.hid hjk
          have HLT : Hid (17 - (intOf (.int .i64 ((k : Int) + 1))).toNat < 17 - (intOf (.int .i64 (k : Int))).toNat) := succ_less k4
          have hdl := HDL.out
          have hjt : j < ts.length := by rw [HTS.out]; exact hjn
          rw [getD_at ts j hjt, ids_step] at hdl
          have ct := HasRR.cell2 hR k (there_at hjk hjt)
          obtain ⟨bk, hbk⟩ : ∃ bk, ts.getD j false = bk := ⟨_, rfl⟩
          rw [hbk] at hdl ct
          clear hbk hjt k3 k4 hjk
          cases bk with
          | false =>
            rw [if_neg (by decide)] at hdl
            have HQ := Lib.hid hdl
            have HR := Lib.hid hR
            clear hdl hR HDL
            go_wp2_with fail
            try rw [HT9.out]
            exact ⟨⟨j + 1, k + 1, by rw [HJK.out], hjn, cast_succ k, b, n, m0, Nat.le_succ_of_le hm0, hb, HBN, Lib.hid (by rw [cast_add1]; exact HQ.out), HR.out⟩, HLT.out⟩
          | true =>
            rw [if_pos rfl] at hdl
            have hpos : L.drop b = (L.drop a).drop n := by rw [List.drop_drop, HBN.out]
            have hbel : Below w.heap.size w wr := by obtain ⟨_, h⟩ := hR; exact h.below
            have hon := eron wr vb base (k : Int) (RdL.below HVB.out hbel)
            have htk : ∀ wx, Below wr.heap.size wr wx → Calls Try.prog 57 #[.pointer (some ⟨b1, 0, none⟩), .agg #[.int .i64 (onE base (k : Int)).id, .int .i64 (onE base (k : Int)).kind, .int .i64 (onE base (k : Int)).x, .int .i64 (onE base (k : Int)).y, .int .i64 (onE base (k : Int)).vx, .int .i64 (onE base (k : Int)).vy, .int .i64 (onE base (k : Int)).hp, .int .i64 (onE base (k : Int)).wt]] wx fun e' w' => _ := fun wx h => ertake w wx b1 L b fl _ (onE base (k : Int)) (HasRR.belowed hR h) hb HLL.out
            have HON := Lib.hid hon
            have HTK := Lib.hid htk
            have HPOS := Lib.hid hpos
            have HDL2 := Lib.hid hdl
            clear hdl hR HDL hon htk hpos hbel
            go_wp2_with fail
            refine HON.out.mono ?_
            rintro e' w4 ⟨rfl, h4⟩
            have htk := HTK.out w4 h4
            have HTK2 := Lib.hid htk
            clear htk h4 HTK HON
            go_wp2_with fail
            refine HTK2.out.mono ?_
            rintro e' w5 (⟨e, q, hfl, hte, hq, rfl, hR⟩ | ⟨hno, rfl, h5⟩)
            · subst hfl
              have hd2 := dl_next (by rw [← HPOS.out]; exact hte) HDL2.out
              rw [List.drop_drop] at hd2
              have HD2 := Lib.hid hd2
              have HA2 := Lib.hid (a_step (q := q) HBN.out)
              have HQ := Lib.hid hq
              have HM0 := Lib.hid hm0
              obtain ⟨v5, h5⟩ := hR
              have h6 := h5.alloc [.int .i64 e.id, .int .i64 e.kind, .int .i64 e.x, .int .i64 e.y, .int .i64 e.vx, .int .i64 e.vy, .int .i64 e.hp, .int .i64 e.wt] 29
              have c0 := h6.cell 0 rfl
              have c1 := h6.cell 1 rfl
              have c2 := h6.cell 2 rfl
              have c3 := h6.cell 3 rfl
              have c4 := h6.cell 4 rfl
              have c5 := h6.cell 5 rfl
              have c6 := h6.cell 6 rfl
              have c7 := h6.cell 7 rfl
              have h7 := ((h6.alloc [.int .i64 e.id, .int .i64 e.kind, .int .i64 e.x, .int .i64 e.y, .int .i64 e.vx, .int .i64 e.vy, .int .i64 e.hp, .int .i64 e.wt] 29).tail.tail).up3
              have H7 := Lib.hid h7
              clear hd2 hte hq h5 h6 h7 HTK2 hm0 ct
              go_wp2_with (at_builtin; refine wpList_append_one rfl _ _ _ rfl 29 i0 _ 8 64 Try.underlying22 hi hz0 hz1 hz2 rfl (by decide) rfl H7.out e.cells rfl rfl ?c1 ?c2 ?c3 ?c4 ?_)
              case c1 => intro j' u hu; refine cell_one_at (by simp only [sz]) ?_; simpa [Enty.cells] using hu
              case c2 => intro u hu; simp [Enty.cells] at hu; rcases hu with rfl | rfl | rfl | rfl | rfl | rfl | rfl | rfl <;> rfl
              case c3 => exact Nat.le_trans (Nat.succ_le_succ (Nat.le_trans HM0.out hj)) (by decide)
              case c4 => decide
              intro v8 w8 h8
              rw [show cellsL m0 ++ e.cells = cellsL (m0 ++ [e]) from (cellsL_snoc m0 e).symm] at h8
              have H8 := Lib.hid h8
              clear h8 H7 c0 c1 c2 c3 c4 c5 c6 c7
              go_wp2_with fail
              try rw [HT9.out]
              refine ⟨⟨j + 1, k + 1, by rw [HJK.out], hjn, cast_succ k, b + q, n + q, m0 ++ [e], by rw [List.length_append]; exact Nat.succ_le_succ HM0.out, HQ.out, HA2.out, Lib.hid (by rw [cast_add1]; exact HD2.out), v5, ?_⟩, HLT.out⟩
              have hz := H8.out
              rw [List.length_append]
              exact hz.up3.up3.up3
            · have hbad : dec base BS = none := by
                rcases HTD.out with ⟨h1, _, h3, h4, h5'⟩ | ⟨h1, h2⟩
                · rw [Nat.zero_add] at h3 h4
                  rw [List.drop_zero] at h5'
                  have hno' := hno.resolve_left (by rw [h1]; decide)
                  rw [HPOS.out] at hno'
                  have hx := dl_none hno' HDL2.out
                  rw [h5', h3, ← HLB.out] at hx
                  exact dec_bad (by rw [← bitsB_length, HLB.out]; exact h4) hx
                · exact dec_short' (by rw [HLB.out]; exact h2.resolve_left (by decide))
              have HBAD := Lib.hid hbad
              have H5 := Lib.hid h5
              clear hbad hno h5 HTK2 ct
              go_wp2_with fail
              exact bodyPost_ret (results_tmp2 rfl _ _ _) rfl (.inr ⟨HBAD.out, rfl, (H5.out.alloc' _).below⟩)
        · obtain rfl : j = 16 := Nat.le_antisymm hj (Nat.le_of_not_lt hjn)
          obtain rfl : k = 17 := hjk
          have hdl := HDL.out
          rw [List.drop_eq_nil_of_le (show ts.length ≤ 16 by rw [HTS.out]; exact Nat.le_refl _), show idsFrom (((17 : Nat) : Int)) [] = [] from rfl] at hdl
          have hend := dl_end hdl
          have hdn := rrdone w w.heap.size wr b1 L b fl _ hR hb HLL.out
          obtain ⟨v9, h9⟩ := hR
          obtain ⟨A9, c9, rfl⟩ := h9.up3.slice
          have H9 := Lib.hid h9
          rw [show ((17 : Nat) : Int) = 17 from rfl]
          cases fl with
          | true =>
            have hno : dec base BS = none := by
              rcases HTD.out with ⟨h, _⟩ | ⟨_, h2⟩
              · cases h
              · exact dec_short' (by rw [HLB.out]; exact h2.resolve_left (by decide))
            rw [Bool.not_true, Bool.false_and] at hdn
            have HNO := Lib.hid hno
            have HDN := Lib.hid hdn
            clear hdl hend hno hdn h9 HDL
            go_wp2_with fail
            refine HDN.out.mono ?_
            rintro e' w10 ⟨rfl, hd⟩
            have HB := Lib.hid (H9.out.below.trans (hd.mono H9.out.size))
            clear hd HDN
            go_wp2_with fail
            exact bodyPost_ret (results_tmp2 rfl _ _ _) rfl (.inr ⟨HNO.out, rfl, HB.out⟩)
          | false =>
            have hx16 : 16 ≤ L.length ∧ ts = L.take 16 ∧ a = 16 := by
              rcases HTD.out with ⟨_, _, h3, h4, h5'⟩ | ⟨h, _⟩
              · rw [Nat.zero_add] at h3 h4
                rw [List.drop_zero] at h5'
                exact ⟨h4, h5', h3⟩
              · cases h
            have hde := dec_end (BS := BS) (base := base) (m := m0) (n := n) (by rw [← bitsB_length, HLB.out]; exact hx16.1) (by rw [HLB.out, ← hx16.2.1, ← hx16.2.2]; exact hend)
            rw [HLB.out, show 8 * BS.length = L.length by rw [← HLB.out, bitsB_length], ← hx16.2.2, ← HBN.out] at hde
            rw [Bool.not_false, Bool.true_and] at hdn
            by_cases hc : L.length - b < 8 ∧ val (L.drop b) = 0
            · rw [if_pos hc] at hde
              rw [decide_eq_true hc.1, decide_eq_true hc.2] at hdn
              have HDE := Lib.hid hde
              have HDN := Lib.hid hdn
              clear hdl hend hde hdn h9 HDL hx16 hc
              go_wp2_with fail
              refine HDN.out.mono ?_
              rintro e' w10 ⟨rfl, hd⟩
              have H10 := Lib.hid (hbelowed H9.out hd)
              clear hd HDN
              go_wp2_with fail
              exact bodyPost_ret (results_tmp2 rfl _ _ _) rfl (.inl ⟨m0, _, HDE.out, rfl, H10.out.tail.tail.tail⟩)
            · rw [if_neg hc] at hde
              have hdb : (decide (L.length - b < 8) && decide (val (L.drop b) = 0)) = false := by
                rw [Bool.eq_false_iff]
                intro h
                rw [Bool.and_eq_true, decide_eq_true_iff, decide_eq_true_iff] at h
                exact hc h
              rw [hdb] at hdn
              have HNO := Lib.hid hde
              have HDN := Lib.hid hdn
              clear hdl hend hde hdn h9 HDL hx16 hc hdb
              go_wp2_with fail
              refine HDN.out.mono ?_
              rintro e' w10 ⟨rfl, hd⟩
              have HB := Lib.hid (H9.out.below.trans (hd.mono H9.out.size))
              clear hd HDN
              go_wp2_with fail
              exact bodyPost_ret (results_tmp2 rfl _ _ _) rfl (.inr ⟨HNO.out, rfl, HB.out⟩)

set_option maxHeartbeats 1000000 in
theorem erdec_no (w : World) (vb : Value) (base : List Enty) (n c : Nat) (A : Option Addr) (hvb : RdL w vb 8 (base.map Enty.cells)) (hb : listB base = false) :
    Calls Try.prog 33 #[vb, .slice A n c] w fun e' w' => e' = .returned (.tuple #[.slice none 0 0, .int .i64 1]) ∧ Below w.heap.size w w' := by
  have h1 := erlist w vb base hvb
  rw [hb] at h1
  have H1 := Lib.hid h1
  clear hvb h1 hb
  go_enter Try.func33, Try.ntmps33
  go_wp2_with fail
  refine H1.out.mono ?_
  rintro e' w1 ⟨rfl, h2⟩
  go_wp2_with fail
  exact bodyPost_ret (results_tmp2 rfl _ _ _) rfl ⟨rfl, h2⟩

end Go.Proofs.Ytfcncmhcmbghpaa.Ents
