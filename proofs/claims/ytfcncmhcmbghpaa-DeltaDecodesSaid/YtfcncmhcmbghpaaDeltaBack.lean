/- The law DeltaBack: what is encoded is decoded on the same base; what is decoded, encoded, is the very bytes; a list on itself has sixteen bits and six of each. For all lists and bytes; no condition. Here: the walk. -/
import Derived.Test.YtfcncmhcmbghpaaEDec
import Derived.Test.YtfcncmhcmbghpaaESame
import Derived.Test.YtfcncmhcmbghpaaOpenB
import Derived.Test.YtfcncmhcmbghpaaDeltaEncodes
set_option linter.unusedVariables false
set_option linter.unusedSimpArgs false
namespace Go.Proofs.Ytfcncmhcmbghpaa.Ents
open Go.Sort Go.RowKit Go.Proofs.Ytfcncmhcmbghpaa.Mem Go.Proofs.Ytfcncmhcmbghpaa.Open Go.Proofs.Ytfcncmhcmbghpaa.OpenB Go.Proofs.Ytfcncmhcmbghpaa.Num Go.Proofs.Ytfcncmhcmbghpaa.Step Go.Proofs.Ytfcncmhcmbghpaa.Wr Go.Proofs.Ytfcncmhcmbghpaa.Bits Go.Proofs.YtfcncmhcmbghpaaW.PrintWords

theorem ids_len : ∀ (mk : List Bool) (a : Int), (idsFrom a mk).length ≤ mk.length
  | [], _ => Nat.le_refl _
  | b :: mk, a => by
    have := ids_len mk (a + 1)
    simp only [idsFrom, List.length_cons]
    split
    · rw [List.length_cons]; omega
    · omega
theorem dec_len {m : List Enty} {L : List Bool} (h : m.map Enty.id = idsFrom 1 (L.take 16)) : m.length ≤ 40 := by
  have h1 := congrArg List.length h
  have h2 := ids_len (L.take 16) 1
  rw [List.length_map] at h1
  rw [List.length_take] at h2
  omega
theorem pack_le (base l : List Enty) (h : l.length ≤ 40) : (pack (encB base l)).length ≤ 100000000 := by
  rw [pack_length]
  have h1 := each_len base l
  have h2 : (encB base l).length ≤ 16 + 486 * 40 := by unfold encB; rw [List.length_append, there_len]; omega
  unfold nby
  omega
theorem back_num {l : List Enty} (h : listB l = true) (h40 : l.length ≤ 40) : ∃ d : Nat, nby (encB l l) = d ∧ wrap64 (6 * (l.length : Int)) = 6 * (l.length : Int) ∧ IntKind.i64.wrap (6 * (l.length : Int)) = 6 * (l.length : Int) ∧
    wrap64 (16 + 6 * (l.length : Int)) = 16 + 6 * (l.length : Int) ∧ IntKind.i64.wrap (16 + 6 * (l.length : Int)) = 16 + 6 * (l.length : Int) ∧ wrap64 (16 + 6 * (l.length : Int) + 7) = 16 + 6 * (l.length : Int) + 7 ∧ IntKind.i64.wrap (16 + 6 * (l.length : Int) + 7) = 16 + 6 * (l.length : Int) + 7 ∧
    ((d : Int) != (16 + 6 * (l.length : Int) + 7).tdiv 8) = false ∧ ((d : Int) != (16 + 6 * (l.length : Int) + 7) / 8) = false ∧ (16 + 6 * (l.length : Int) + 7).tdiv 8 = (d : Int) ∧ (16 + 6 * (l.length : Int) + 7) / 8 = (d : Int) ∧ IntKind.i64.wrap (d : Int) = (d : Int) ∧ wrap64 (d : Int) = (d : Int) := by
  have hs := self_enc ((listB_true _).1 h)
  refine ⟨nby (encB l l), rfl, ?_⟩
  have hn : nby (encB l l) = (16 + 6 * l.length + 7) / 8 := by unfold nby; rw [hs]
  have hd : (16 + 6 * (l.length : Int) + 7).tdiv 8 = (16 + 6 * (l.length : Int) + 7) / 8 := Int.tdiv_eq_ediv_of_nonneg (by omega)
  have hq : ((nby (encB l l) : Nat) : Int) = (16 + 6 * (l.length : Int) + 7) / 8 := by rw [hn]; omega
  rw [hd, ← hq]
  rw [wrap_i64, wrap_i64, wrap_i64, wrap_i64]
  unfold wrap64
  refine ⟨by omega, by omega, by omega, by omega, by omega, by omega, by simp, by simp, rfl, rfl, by omega, by omega⟩

set_option maxHeartbeats 2000000 in
theorem deltaBack_core (w : World) (vb vl vx : Value) (base l : List Enty) (bs : List Int) (hvb : RdL w vb 8 (base.map Enty.cells)) (hvl : RdL w vl 8 (l.map Enty.cells)) (hvx : Rd w vx bs.length (nums .u8 bs)) (hby : ∀ o, o ∈ bs → 0 ≤ o ∧ o < 256) :
    Calls Try.prog 10 #[vb, vl, vx] w fun e' w' => e' = .returned (.bool true) ∧ Below w.heap.size w w' := by
  have HVB := Lib.hid hvb
  have HVL := Lib.hid hvl
  have HVX := Lib.hid hvx
  obtain ⟨A, c, rfl, _, _, _⟩ := cells_at hvb
  obtain ⟨A', c', rfl, _, _, _⟩ := cells_at hvl
  obtain ⟨A'', c'', rfl, _, _, _⟩ := Rd.form hvx (by simp [nums])
  clear hvb hvl hvx
  by_cases hb1 : 40 < base.length
  · have t1 : decide ((40 : Int) < (base.length : Int)) = true := by simp; omega
    go_enter Try.func10, Try.ntmps10
    go_wp2_with fail
    refine (awake17 _).mono ?_
    rintro e' w1 ⟨rfl, h1⟩
    go_wp2_with fail
    refine (awake17 _).mono ?_
    rintro e' w3 ⟨rfl, h4⟩
    go_wp2_with fail
    go_ret
    exact ⟨rfl, h1.trans (h4.mono h1.size)⟩
  · have t1 : decide ((40 : Int) < (base.length : Int)) = false := by simp; omega
    by_cases hb2 : 40 < l.length
    · have t2 : decide ((40 : Int) < (l.length : Int)) = true := by simp; omega
      go_enter Try.func10, Try.ntmps10
      go_wp2_with fail
      refine (awake17 _).mono ?_
      rintro e' w1 ⟨rfl, h1⟩
      go_wp2_with fail
      refine (awake17 _).mono ?_
      rintro e' w3 ⟨rfl, h4⟩
      go_wp2_with fail
      go_ret
      exact ⟨rfl, h1.trans (h4.mono h1.size)⟩
    · have t2 : decide ((40 : Int) < (l.length : Int)) = false := by simp; omega
      by_cases hb3 : 1000 < bs.length
      · have t3 : decide ((1000 : Int) < (bs.length : Int)) = true := by simp; omega
        go_enter Try.func10, Try.ntmps10
        go_wp2_with fail
        refine (awake17 _).mono ?_
        rintro e' w1 ⟨rfl, h1⟩
        go_wp2_with fail
        refine (awake17 _).mono ?_
        rintro e' w3 ⟨rfl, h4⟩
        go_wp2_with fail
        go_ret
        exact ⟨rfl, h1.trans (h4.mono h1.size)⟩
      · have t3 : decide ((1000 : Int) < (bs.length : Int)) = false := by simp; omega
        have H40 := Lib.hid (show l.length ≤ 40 by omega)
        have HBK : Hid (bytesOk bs) := ⟨by omega, hby⟩
        clear hby hb1 hb2 hb3
        cases hf1 : listB base with
        | false =>
          have HF1 := Lib.hid hf1
          clear hf1
          go_enter Try.func10, Try.ntmps10
          go_wp2_with fail
          refine (awake17 _).mono ?_
          rintro e' w1 ⟨rfl, h1⟩
          have he := eenc_no w1 _ _ base l (RdL.below HVB.out h1) (RdL.below HVL.out h1) (fun h => by rw [HF1.out] at h; cases h.1)
          have HE := Lib.hid he
          have H1 := Lib.hid h1
          clear he h1
          go_wp2_with fail
          refine HE.out.mono ?_
          rintro e' w2 ⟨rfl, h2⟩
          have hb2 := H1.out.trans (h2.mono H1.out.size)
          have hd := edec_no w2 _ base bs.length c'' A'' (RdL.below HVB.out hb2) HF1.out
          have HD := Lib.hid hd
          have HB2 := Lib.hid hb2
          clear h2 hb2 hd HE H1
          go_wp2_with fail
          refine HD.out.mono ?_
          rintro e' w3 ⟨rfl, h3⟩
          go_wp2_with fail
          go_ret
          exact ⟨rfl, HB2.out.trans (h3.mono HB2.out.size)⟩
        | true =>
          have HB1 := Lib.hid hf1
          clear hf1
          cases hf2 : listB l with
          | false =>
            have HF2 := Lib.hid hf2
            clear hf2
            go_enter Try.func10, Try.ntmps10
            go_wp2_with fail
            refine (awake17 _).mono ?_
            rintro e' w1 ⟨rfl, h1⟩
            have he := eenc_no w1 _ _ base l (RdL.below HVB.out h1) (RdL.below HVL.out h1) (fun h => by rw [HF2.out] at h; cases h.2)
            have HE := Lib.hid he
            have H1 := Lib.hid h1
            clear he h1
            go_wp2_with fail
            refine HE.out.mono ?_
            rintro e' w2 ⟨rfl, h2⟩
            have HB2 := Lib.hid (H1.out.trans (h2.mono H1.out.size))
            clear h2 HE H1
            have hd := edec w2 _ _ base bs (RdL.below HVB.out HB2.out) (Rd.below HVX.out HB2.out) HBK.out HB1.out
            have HD := Lib.hid hd
            clear hd
            go_wp2_with fail
            refine HD.out.mono ?_
            rintro e' wd (⟨m, vd, hm, rfl, h⟩ | ⟨hno, rfl, h⟩)
            · obtain ⟨q1, q2, q3⟩ := dec_some ((listB_true _).1 HB1.out) HBK.out.2 hm
              have hb := HB2.out.trans (h.below.mono HB2.out.size)
              have he := eenc wd _ vd base m (RdL.below HVB.out hb) (Holds.rdL h) HB1.out ((listB_true _).2 q1) (dec_len q3)
              obtain ⟨Ad, cd, rfl⟩ := h.slice
              have HE := Lib.hid he
              have HQ := Lib.hid q2
              have HBL := Lib.hid hb
              clear he q1 q2 q3 hm h hb HD
              go_wp2_with fail
              refine HE.out.mono ?_
              rintro e' we ⟨ve, rfl, h⟩
              have r2 := h.rd
              rw [← pack_length (encB base m), ← HQ.out] at r2
              have hb := HBL.out.trans (h.below.mono HBL.out.size)
              have hs := same we _ _ _ _ (Rd.below HVX.out hb) r2
              rw [decide_eq_true rfl] at hs
              have HS := Lib.hid hs
              have HBL2 := Lib.hid hb
              clear r2 hs h hb HE
              go_wp2_with fail
              refine HS.out.mono ?_
              rintro e' wf ⟨rfl, hd⟩
              go_wp2_with fail
              go_ret
              exact ⟨rfl, HBL2.out.trans (hd.below.mono HBL2.out.size)⟩
            · have HBL := Lib.hid (HB2.out.trans (h.mono HB2.out.size))
              clear hno h HD
              go_wp2_with fail
              go_ret
              exact ⟨rfl, HBL.out⟩
          | true =>
            have HF2 := Lib.hid hf2
            obtain ⟨d, hdn, n1, n2, n3, n4, n5, n6, n7, n8, n9, n10, n11, n12⟩ := back_num hf2 H40.out
            have HDN := Lib.hid hdn
            clear hf2 hdn
            go_enter Try.func10, Try.ntmps10
            go_wp2_with fail
            refine (awake17 _).mono ?_
            rintro e' w1 ⟨rfl, h1⟩
            have he := eenc w1 _ _ base l (RdL.below HVB.out h1) (RdL.below HVL.out h1) HB1.out HF2.out H40.out
            have HE := Lib.hid he
            have H1 := Lib.hid h1
            clear he h1
            go_wp2_with fail
            refine HE.out.mono ?_
            rintro e' w2 ⟨v2, rfl, h2⟩
            have hb2 := H1.out.trans (h2.below.mono H1.out.size)
            have r2 := h2.rd
            rw [← pack_length (encB base l)] at r2
            have hd := edec w2 _ _ base (pack (encB base l)) (RdL.below HVB.out hb2) r2 ⟨pack_le base l H40.out, fun x hx => pack_byte _ x hx⟩ HB1.out
            rw [dec_enc ((listB_true _).1 HB1.out) ((listB_true _).1 HF2.out)] at hd
            obtain ⟨A2, c2, rfl⟩ := h2.slice
            have HD := Lib.hid hd
            have HB2 := Lib.hid hb2
            clear h2 hb2 hd r2 HE H1
            go_wp2_with fail
            refine HD.out.mono ?_
            rintro e' w3 (⟨m, v3, hm, rfl, h3⟩ | ⟨hno, _⟩)
            · obtain rfl : l = m := Option.some.inj hm
              have hb3 := HB2.out.trans (h3.below.mono HB2.out.size)
              have r3 := Holds.rdL h3
              have he := eenc w3 _ _ l l (RdL.below HVL.out hb3) (RdL.below HVL.out hb3) HF2.out HF2.out H40.out
              rw [HDN.out] at he
              obtain ⟨A3, c3, rfl⟩ := h3.slice
              have HE := Lib.hid he
              have HB3 := Lib.hid hb3
              have HR3 := Lib.hid r3
              clear hm h3 hb3 r3 he HD HB2
              go_wp2_with fail
              refine HE.out.mono ?_
              rintro e' w4 ⟨v4, rfl, h4⟩
              have hb4 := HB3.out.trans (h4.below.mono HB3.out.size)
              have hs := ersame w4 _ _ l (RdL.below HVL.out hb4) (RdL.below HR3.out h4.below)
              obtain ⟨A4, c4, rfl⟩ := h4.slice
              have HS := Lib.hid hs
              have HB4 := Lib.hid hb4
              clear h4 hb4 hs HE HB3 HR3
              go_wp2_with fail
              refine HS.out.mono ?_
              rintro e' w5 ⟨rfl, h5⟩
              have HB5 := Lib.hid (HB4.out.trans (h5.mono HB4.out.size))
              clear h5 HS HB4
              have hd := edec w5 _ _ base bs (RdL.below HVB.out HB5.out) (Rd.below HVX.out HB5.out) HBK.out HB1.out
              have HD := Lib.hid hd
              clear hd
              go_wp2_with fail
              refine HD.out.mono ?_
              rintro e' wd (⟨m, vd, hm, rfl, h⟩ | ⟨hno, rfl, h⟩)
              · obtain ⟨q1, q2, q3⟩ := dec_some ((listB_true _).1 HB1.out) HBK.out.2 hm
                have hb := HB5.out.trans (h.below.mono HB5.out.size)
                have he := eenc wd _ vd base m (RdL.below HVB.out hb) (Holds.rdL h) HB1.out ((listB_true _).2 q1) (dec_len q3)
                obtain ⟨Ad, cd, rfl⟩ := h.slice
                have HE := Lib.hid he
                have HQ := Lib.hid q2
                have HBL := Lib.hid hb
                clear he q1 q2 q3 hm h hb HD
                go_wp2_with fail
                refine HE.out.mono ?_
                rintro e' we ⟨ve, rfl, h⟩
                have r2 := h.rd
                rw [← pack_length (encB base m), ← HQ.out] at r2
                have hb := HBL.out.trans (h.below.mono HBL.out.size)
                have hs := same we _ _ _ _ (Rd.below HVX.out hb) r2
                rw [decide_eq_true rfl] at hs
                have HS := Lib.hid hs
                have HBL2 := Lib.hid hb
                clear r2 hs h hb HE
                go_wp2_with fail
                refine HS.out.mono ?_
                rintro e' wf ⟨rfl, hd⟩
                go_wp2_with fail
                go_ret
                exact ⟨rfl, HBL2.out.trans (hd.below.mono HBL2.out.size)⟩
              · have HBL := Lib.hid (HB5.out.trans (h.mono HB5.out.size))
                clear hno h HD
                go_wp2_with fail
                go_ret
                exact ⟨rfl, HBL.out⟩
            · cases hno

theorem deltaBack (w : World) {H : Type} {enc : TypeId × Value → H} {base base' base2 base2' base3 base3' : Nat} {sp sp2 sp3 : Nat → Bool} {held held2 held3 : Bool} {d d2 d3 : DataW H} {ps ps2 ps3 : List MemPlace} {r r2 r3 : Reach} (v0 : Value)
    (hok0 : Value.okWide Try.prog w r base' 22 v0) (h0 : DataW.Trod enc Try.prog w base sp held 22 v0 d ps) (v : Value)
    (hok : Value.okWide Try.prog w r2 base2' 22 v) (h : DataW.Trod enc Try.prog w base2 sp2 held2 22 v d2 ps2) (v3 : Value)
    (hok3 : Value.okWide Try.prog w r3 base3' 35 v3) (h3 : DataW.Trod enc Try.prog w base3 sp3 held3 35 v3 d3 ps3) :
    Calls Try.prog 10 #[v0, v, v3] w fun e' w' => e' = .returned (.bool true) ∧ Below w.heap.size w w' := by
  obtain ⟨lb, hvb, _⟩ := open_ents hok0 h0
  obtain ⟨l, hv, _⟩ := open_ents hok h
  obtain ⟨bs, hx, hby⟩ := open_bytes hok3 h3
  exact deltaBack_core w v0 v v3 lb l bs hvb hv hx hby

end Go.Proofs.Ytfcncmhcmbghpaa.Ents
