/- A delta read, of whatever bytes; by the program. -/
import Derived.Test.YtfcncmhcmbghpaaETakeG
import Derived.Test.YtfcncmhcmbghpaaEEncNo
import Derived.Test.YtfcncmhcmbghpaaDone
import Derived.Test.YtfcncmhcmbghpaaApp
set_option linter.unusedVariables false
set_option linter.unusedSimpArgs false
namespace Go.Proofs.Ytfcncmhcmbghpaa.Ents
open Go.Sort Go.RowKit Go.Proofs.Ytfcncmhcmbghpaa.Mem Go.Proofs.Ytfcncmhcmbghpaa.Open Go.Proofs.Ytfcncmhcmbghpaa.Num Go.Proofs.Ytfcncmhcmbghpaa.Step Go.Proofs.Ytfcncmhcmbghpaa.Wr Go.Proofs.Ytfcncmhcmbghpaa.Bits Go.Proofs.YtfcncmhcmbghpaaW.PrintWords

theorem info_ent' : (Try.prog.info? 29).map (fun i => (i.zero, i.size, i.bytes)) = some (some (.agg #[.int .i64 0, .int .i64 0, .int .i64 0, .int .i64 0, .int .i64 0, .int .i64 0, .int .i64 0, .int .i64 0]), 8, 64) := by kernel_rfl

/-- Of a list's reading that gives T the entities 'done' are read, of n bits; the others, of these ids, come of the bits l. -/
def DL (T : Option (List Enty × Nat)) (base : List Enty) (ids : List Int) (l : List Bool) (done : List Enty) (n : Nat) : Prop := T = (decL base ids l).map fun p => (done ++ p.1, n + p.2)
theorem dl_start (base : List Enty) (ids : List Int) (l : List Bool) : DL (decL base ids l) base ids l [] 0 := by
  unfold DL
  cases decL base ids l <;> simp
theorem dl_next {T : Option (List Enty × Nat)} {base : List Enty} {id : Int} {ids : List Int} {l : List Bool} {done : List Enty} {n k : Nat} {e : Enty} (ht : takeE (onE base id) l = some (e, k)) (h : DL T base (id :: ids) l done n) : DL T base ids (l.drop k) (done ++ [e]) (n + k) := by
  unfold DL at *
  rw [h]
  simp only [decL, ht]
  cases decL base ids (l.drop k) <;> simp [Nat.add_assoc]
theorem dl_none {T : Option (List Enty × Nat)} {base : List Enty} {id : Int} {ids : List Int} {l : List Bool} {done : List Enty} {n : Nat} (ht : takeE (onE base id) l = none) (h : DL T base (id :: ids) l done n) : T = none := by
  unfold DL at h
  rw [h]
  simp only [decL, ht, Option.map_none]
theorem dl_end {T : Option (List Enty × Nat)} {base : List Enty} {l : List Bool} {done : List Enty} {n : Nat} (h : DL T base [] l done n) : T = some (done, n) := by
  unfold DL at h
  rw [h]
  simp [decL]
theorem ids_step (k : Int) (b : Bool) (mk : List Bool) : idsFrom k (b :: mk) = if b = true then k :: idsFrom (k + 1) mk else idsFrom (k + 1) mk := rfl

theorem dec_short {base : List Enty} {BS : List Int} (h : 8 * BS.length < 16) : dec base BS = none := by
  unfold dec decP
  rw [if_pos (by rw [bitsB_length]; exact h)]
theorem dec_bad {base : List Enty} {BS : List Int} (h16 : 16 ≤ 8 * BS.length) (h : decL base (idsFrom 1 ((bitsB BS).take 16)) ((bitsB BS).drop 16) = none) : dec base BS = none := by
  unfold dec decP
  rw [if_neg (by rw [bitsB_length]; omega), h]
  rfl
theorem dec_end {base : List Enty} {BS : List Int} {m : List Enty} {n : Nat} (h16 : 16 ≤ 8 * BS.length) (h : decL base (idsFrom 1 ((bitsB BS).take 16)) ((bitsB BS).drop 16) = some (m, n)) :
    dec base BS = if 8 * BS.length - (16 + n) < 8 ∧ val ((bitsB BS).drop (16 + n)) = 0 then some m else none := by
  unfold dec decP
  rw [if_neg (by rw [bitsB_length]; omega), h]
  rfl

theorem id_facts {j k : Nat} (h : k = j + 1) (hj : j < 16) : IntKind.i64.wrap ((k : Int) - 1) = (j : Int) ∧ wrap64 ((k : Int) - 1) = (j : Int) ∧ IntKind.u64.wrap (j : Int) = (j : Int) ∧ (j : Int) % 18446744073709551616 = (j : Int) ∧ (k : Int) ≤ 16 ∧ ¬ (16 : Int) < (k : Int) ∧ min j 64 = j ∧ j < 64 ∧ IntKind.i64.wrap ((k : Int) + 1) = (k : Int) + 1 ∧ wrap64 ((k : Int) + 1) = (k : Int) + 1 ∧ (j : Int) < 64 ∧ (0 : Int) ≤ (j : Int) := by
  rw [wrap_i64, wrap_u64, wrap_i64]; unfold wrap64; omega

theorem HasR.belowed {W : World} {B : Nat} {w w' : World} {b : Nat} {t : TypeId} {bs : List Int} {a : Nat} {fl : Bool} {F : List Ent} (h : HasR W B w b t bs a fl F) (hb : Below w.heap.size w w') : HasR W B w' b t bs a fl F := by
  obtain ⟨v, h⟩ := h
  exact ⟨v, Holds.belowed h hb⟩
theorem cast_add1 {k : Nat} : ((k + 1 : Nat) : Int) = (k : Int) + 1 := Int.natCast_add k 1
theorem lt17 {j k : Nat} (h : k = j + 1) (hj : j < 16) : k < 17 := by omega
theorem a_step {a q a0 n : Nat} (h : a = a0 + n) : a + q = a0 + (n + q) := by omega
theorem cellsL_snoc (l : List Enty) (e : Enty) : cellsL (l ++ [e]) = cellsL l ++ e.cells := by simp [cellsL]

set_option maxHeartbeats 2000000 in
theorem edec (w : World) (vb v : Value) (base : List Enty) (BS : List Int) (hvb : RdL w vb 8 (base.map Enty.cells)) (hv : Rd w v BS.length (nums .u8 BS)) (hbk : bytesOk BS) (hb : listB base = true) :
    Calls Try.prog 32 #[vb, v] w fun e' w' =>
      (∃ m v', dec base BS = some m ∧ e' = .returned (.tuple #[v', .int .i64 0]) ∧ Holds w w.heap.size w' [.rw v' 29 8 m.length (cellsL m)]) ∨
      (dec base BS = none ∧ e' = .returned (.tuple #[.slice none 0 0, .int .i64 2]) ∧ Below w.heap.size w w') := by
  obtain ⟨i0, hi, hz0, hz1, hz2⟩ := info_parts info_ent'
  have HVB := Lib.hid hvb
  have h1 := elist w vb base hvb
  rw [hb] at h1
  have H1 := Lib.hid h1
  have HV := Lib.hid hv
  have HBK := Lib.hid hbk
  clear hvb h1 hv hbk hb
  go_enter Try.func32, Try.ntmps32
  go_wp2_with fail
  refine H1.out.mono ?_
  rintro e' w1 ⟨rfl, h2⟩
  have hn := rnew w w.heap.size w1 [.rw (.slice none 0 0) 29 8 0 []] v BS ((Holds.belowed (Holds.start w) h2).nilrow 29 8) (Rd.below HV.out h2) HBK.out
  have HN := Lib.hid hn
  clear h2 hn H1
  go_wp2_with fail
  refine HN.out.mono ?_
  rintro e' w2 ⟨b1, rfl, hR⟩
  have ht := rtake_any w w.heap.size w2 b1 _ BS 0 _ 16 hR HBK.out (Nat.zero_le _) (by decide)
  rw [show ((16 : Nat) : Int) = 16 from rfl] at ht
  have HT := Lib.hid ht
  clear ht hR HN
  go_wp2_with fail
  refine HT.out.mono ?_
  rintro e' w3 ⟨mk, a0, fl, rfl, hR, hmk, ha0, hcase⟩
  have hmt := fun k => bit_test mk k (by omega)
  obtain ⟨M, hM⟩ : ∃ M, val mk = M := ⟨_, rfl⟩
  rw [hM] at hmt ⊢
  have hmr := val_range mk
  rw [hM, hmk] at hmr
  have HMT := Lib.hid hmt
  have HMK := Lib.hid hmk
  have HCASE := Lib.hid hcase
  have HA0 := Lib.hid ha0
  have HR := Lib.hid hR
  clear hR HT hmt hM hmk hcase ha0
  go_wp2_with fail
  go_loopw [8, 9] (fun vo iv wr => ∃ j k : Nat, k = j + 1 ∧ j ≤ 16 ∧ iv = .int .i64 k ∧ ∃ (a n : Nat) (m0 : List Enty), m0.length ≤ j ∧ a ≤ 8 * BS.length ∧ Hid (a = a0 + n) ∧
      Hid (DL (decL base (idsFrom 1 mk) ((bitsB BS).drop a0)) base (idsFrom (k : Int) (mk.drop j)) (((bitsB BS).drop a0).drop n) m0 n) ∧
      HasR w w.heap.size wr b1 74 BS a fl [.rw vo 29 8 m0.length (cellsL m0)])
    (fun _ iv _ => 17 - (intOf iv).toNat)
  case atStart => exact ⟨0, 1, rfl, by decide, rfl, a0, 0, [], Nat.le_refl _, HA0.out, rfl, dl_start _ _ _, HR.out⟩
  case round =>
    obtain ⟨j, k, hjk, hj, rfl, a, n, m0, hm0, ha, HAN, HDL, hR⟩ := hrel
    clear HR
    by_cases hjn : j < 16
    · obtain ⟨t1, t2, t3, t4, t5, t6, t7, t8, t9, t10, t11, t12⟩ := id_facts hjk hjn
      have HT9 := Lib.hid t10
      have hmt := HMT.out j
      have hdl := HDL.out
      rw [getD_at mk j (by rw [HMK.out]; exact hjn), ids_step] at hdl
      obtain ⟨bk, hbk⟩ : ∃ bk, mk.getD j false = bk := ⟨_, rfl⟩
      rw [hbk] at hmt hdl
      have hcase := HCASE.out
      have HJK := Lib.hid hjk
      have HLT : Hid (17 - (intOf (.int .i64 ((k : Int) + 1))).toNat < 17 - (intOf (.int .i64 (k : Int))).toNat) := succ_less (lt17 hjk hjn)
      cases bk with
      | false =>
        rw [Bool.not_false] at hmt
        rw [if_neg (by decide)] at hdl
        have HQ := Lib.hid hdl
        have HR := Lib.hid hR
        clear hdl hR hcase hbk HDL t9 t10 hjk
        go_wp2_with fail
        try rw [HT9.out]
        exact ⟨⟨j + 1, k + 1, by rw [HJK.out], hjn, cast_succ k, a, n, m0, Nat.le_succ_of_le hm0, ha, HAN, Lib.hid (by rw [cast_add1]; exact HQ.out), HR.out⟩, HLT.out⟩
      | true =>
        rw [Bool.not_true] at hmt
        rw [if_pos rfl] at hdl
        have hfl : fl = false := by
          rcases hcase with ⟨h, _⟩ | ⟨_, h, _⟩
          · exact h
          · rw [h] at hbk
            rw [List.getD_eq_getElem?_getD, List.getElem?_replicate] at hbk
            split at hbk <;> simp at hbk
        subst hfl
        have hx16 : 16 ≤ 8 * BS.length ∧ mk = (bitsB BS).take 16 ∧ (bitsB BS).drop a0 = (bitsB BS).drop 16 ∧ a0 = 16 := by
          rcases hcase with ⟨_, h1, h2, h3⟩ | ⟨h, _⟩
          · rw [Nat.zero_add] at h1 h3
            rw [List.drop_zero] at h2
            exact ⟨h1, h2, by rw [h3], h3⟩
          · cases h
        have hpos : (bitsB BS).drop a = ((bitsB BS).drop a0).drop n := by rw [List.drop_drop, HAN.out]
        have hbel : Below w.heap.size w wr := by obtain ⟨_, h⟩ := hR; exact h.below
        have hon := eon wr vb base (k : Int) (RdL.below HVB.out hbel)
        have htk : ∀ wx, Below wr.heap.size wr wx → Calls Try.prog 27 #[.pointer (some ⟨b1, 0, none⟩), .agg #[.int .i64 (onE base (k : Int)).id, .int .i64 (onE base (k : Int)).kind, .int .i64 (onE base (k : Int)).x, .int .i64 (onE base (k : Int)).y, .int .i64 (onE base (k : Int)).vx, .int .i64 (onE base (k : Int)).vy, .int .i64 (onE base (k : Int)).hp, .int .i64 (onE base (k : Int)).wt]] wx fun e' w' => _ := fun wx hb => etakeg w wx b1 _ BS a _ (onE base (k : Int)) (HasR.belowed hR hb) HBK.out ha
        have HON := Lib.hid hon
        have HTK := Lib.hid htk
        have HPOS := Lib.hid hpos
        have HX := Lib.hid hx16
        have HDL2 := Lib.hid hdl
        clear hdl hR hcase hbk HDL t9 t10 hjk hon htk hpos hx16 hbel
        go_wp2_with fail
        refine HON.out.mono ?_
        rintro e' w4 ⟨rfl, h4⟩
        have htk := HTK.out w4 h4
        have HTK2 := Lib.hid htk
        clear htk h4 HTK HON
        go_wp2_with fail
        refine HTK2.out.mono ?_
        rintro e' w5 (⟨e, q, hte, hq, rfl, hR⟩ | ⟨hno, rfl, h5⟩)
        · have hd2 := dl_next (by rw [← HPOS.out]; exact hte) HDL2.out
          rw [List.drop_drop] at hd2
          have HD2 := Lib.hid hd2
          have HA2 := Lib.hid (a_step (q := q) HAN.out)
          have HQ := Lib.hid hq
          have HM0 := Lib.hid hm0
          obtain ⟨v5, h5⟩ := hR
          have h6 := h5.alloc [.int .i64 e.id, .int .i64 e.kind, .int .i64 e.x, .int .i64 e.y, .int .i64 e.vx, .int .i64 e.vy, .int .i64 e.hp, .int .i64 e.wt] 29
          have c0 := h6.cell 0 rfl
          have c1 := h6.cell 1 rfl
          have c2 := h6.cell 2 rfl
          have c3 := h6.cell 3 rfl
          have c4 := h6.cell 4 rfl
          have c5 := h6.cell 5 rfl
          have c6 := h6.cell 6 rfl
          have c7 := h6.cell 7 rfl
          have h7 := ((h6.alloc [.int .i64 e.id, .int .i64 e.kind, .int .i64 e.x, .int .i64 e.y, .int .i64 e.vx, .int .i64 e.vy, .int .i64 e.hp, .int .i64 e.wt] 29).tail.tail).up2
          have H7 := Lib.hid h7
          clear hd2 hte hq h5 h6 h7 HTK2 hm0
          go_wp2_with (at_builtin; refine wpList_append_one rfl _ _ _ rfl 29 i0 _ 8 64 Try.underlying22 hi hz0 hz1 hz2 rfl (by decide) rfl H7.out e.cells rfl rfl ?c1 ?c2 ?c3 ?c4 ?_)
          case c1 => intro j' u hu; refine cell_one_at (by simp only [sz]) ?_; simpa [Enty.cells] using hu
          case c2 => intro u hu; simp [Enty.cells] at hu; rcases hu with rfl | rfl | rfl | rfl | rfl | rfl | rfl | rfl <;> rfl
          case c3 => exact Nat.le_trans (Nat.succ_le_succ (Nat.le_trans HM0.out hj)) (by decide)
          case c4 => decide
          intro v8 w8 h8
          rw [show cellsL m0 ++ e.cells = cellsL (m0 ++ [e]) from (cellsL_snoc m0 e).symm] at h8
          have H8 := Lib.hid h8
          clear h8 H7 c0 c1 c2 c3 c4 c5 c6 c7
          go_wp2_with fail
          try rw [HT9.out]
          refine ⟨⟨j + 1, k + 1, by rw [HJK.out], hjn, cast_succ k, a + q, n + q, m0 ++ [e], by rw [List.length_append]; exact Nat.succ_le_succ HM0.out, HQ.out, HA2.out, Lib.hid (by rw [cast_add1]; exact HD2.out), v5, ?_⟩, HLT.out⟩
          have hz := H8.out
          rw [List.length_append]
          exact hz.up2.up2
        · have hbad := dec_bad (BS := BS) (base := base) HX.out.1 (by rw [← HX.out.2.1, ← HX.out.2.2.1]; exact dl_none (by rw [← HPOS.out]; exact hno) HDL2.out)
          have HBAD := Lib.hid hbad
          have H5 := Lib.hid h5
          clear hbad hno h5 HTK2
          go_wp2_with fail
          exact bodyPost_ret (results_tmp2 rfl _ _ _) rfl (.inr ⟨HBAD.out, rfl, (H5.out.alloc' _).below⟩)
    · obtain rfl : j = 16 := Nat.le_antisymm hj (Nat.le_of_not_lt hjn)
      obtain rfl : k = 17 := hjk
      have hdl := HDL.out
      rw [List.drop_eq_nil_of_le (show mk.length ≤ 16 by rw [HMK.out]; exact Nat.le_refl _), show idsFrom (((17 : Nat) : Int)) [] = [] from rfl] at hdl
      have hend := dl_end hdl
      have hcase := HCASE.out
      have hdn := rdone w w.heap.size wr b1 _ BS a fl _ hR HBK.out ha
      obtain ⟨v9, h9⟩ := hR
      obtain ⟨A9, c9, rfl⟩ := h9.up2.slice
      have H9 := Lib.hid h9
      rw [show ((17 : Nat) : Int) = 17 from rfl]
      cases fl with
      | true =>
        have hno : dec base BS = none := dec_short (by
          rcases hcase with ⟨h, _⟩ | ⟨_, _, h⟩
          · cases h
          · rw [Nat.zero_add] at h; exact h)
        rw [Bool.not_true, Bool.false_and] at hdn
        have HNO := Lib.hid hno
        have HDN := Lib.hid hdn
        clear hdl hend hcase hno hdn h9 HDL
        go_wp2_with fail
        refine HDN.out.mono ?_
        rintro e' w10 ⟨rfl, hd⟩
        have HB := Lib.hid (H9.out.below.trans (hd.below.mono H9.out.size))
        clear hd HDN
        go_wp2_with fail
        exact bodyPost_ret (results_tmp2 rfl _ _ _) rfl (.inr ⟨HNO.out, rfl, HB.out⟩)
      | false =>
        have hx16 : 16 ≤ 8 * BS.length ∧ mk = (bitsB BS).take 16 ∧ (bitsB BS).drop a0 = (bitsB BS).drop 16 ∧ a0 = 16 := by
          rcases hcase with ⟨_, h1, h2, h3⟩ | ⟨h, _⟩
          · rw [Nat.zero_add] at h1 h3
            rw [List.drop_zero] at h2
            exact ⟨h1, h2, by rw [h3], h3⟩
          · cases h
        have hde := dec_end (BS := BS) (base := base) hx16.1 (by rw [← hx16.2.1, ← hx16.2.2.1]; exact hend)
        have hpos : a = 16 + n := by rw [HAN.out, hx16.2.2.2]
        rw [← hpos] at hde
        rw [Bool.not_false, Bool.true_and] at hdn
        by_cases hc : 8 * BS.length - a < 8 ∧ val ((bitsB BS).drop a) = 0
        · rw [if_pos hc] at hde
          rw [decide_eq_true hc.1, decide_eq_true hc.2] at hdn
          have HDE := Lib.hid hde
          have HDN := Lib.hid hdn
          clear hdl hend hcase hde hdn h9 HDL hx16 hpos hc
          go_wp2_with fail
          refine HDN.out.mono ?_
          rintro e' w10 ⟨rfl, hd⟩
          have H10 := Lib.hid (Holds.belowed H9.out hd.below)
          clear hd HDN
          go_wp2_with fail
          exact bodyPost_ret (results_tmp2 rfl _ _ _) rfl (.inl ⟨m0, _, HDE.out, rfl, H10.out.tail.tail⟩)
        · rw [if_neg hc] at hde
          have hdb : (decide (8 * BS.length - a < 8) && decide (val ((bitsB BS).drop a) = 0)) = false := by
            rw [Bool.eq_false_iff]
            intro h
            rw [Bool.and_eq_true, decide_eq_true_iff, decide_eq_true_iff] at h
            exact hc h
          rw [hdb] at hdn
          have HNO := Lib.hid hde
          have HDN := Lib.hid hdn
          clear hdl hend hcase hde hdn h9 HDL hx16 hpos hc hdb
          go_wp2_with fail
          refine HDN.out.mono ?_
          rintro e' w10 ⟨rfl, hd⟩
          have HB := Lib.hid (H9.out.below.trans (hd.below.mono H9.out.size))
          clear hd HDN
          go_wp2_with fail
          exact bodyPost_ret (results_tmp2 rfl _ _ _) rfl (.inr ⟨HNO.out, rfl, HB.out⟩)

set_option maxHeartbeats 1000000 in
theorem edec_no (w : World) (vb : Value) (base : List Enty) (n c : Nat) (A : Option Addr) (hvb : RdL w vb 8 (base.map Enty.cells)) (hb : listB base = false) :
    Calls Try.prog 32 #[vb, .slice A n c] w fun e' w' => e' = .returned (.tuple #[.slice none 0 0, .int .i64 1]) ∧ Below w.heap.size w w' := by
  have h1 := elist w vb base hvb
  rw [hb] at h1
  have H1 := Lib.hid h1
  clear hvb h1 hb
  go_enter Try.func32, Try.ntmps32
  go_wp2_with fail
  refine H1.out.mono ?_
  rintro e' w1 ⟨rfl, h2⟩
  go_wp2_with fail
  exact bodyPost_ret (results_tmp2 rfl _ _ _) rfl ⟨rfl, h2⟩

end Go.Proofs.Ytfcncmhcmbghpaa.Ents
