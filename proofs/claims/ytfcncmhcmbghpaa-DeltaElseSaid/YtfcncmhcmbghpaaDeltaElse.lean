/- The law DeltaElse: on another base a delta's bytes are read as another list, or refused, or as the same; never as one that is not formed. For all lists; no condition. Here: the walk. -/
import Derived.Test.YtfcncmhcmbghpaaDeltaBack
set_option linter.unusedVariables false
set_option linter.unusedSimpArgs false
namespace Go.Proofs.Ytfcncmhcmbghpaa.Ents
open Go.Sort Go.RowKit Go.Proofs.Ytfcncmhcmbghpaa.Mem Go.Proofs.Ytfcncmhcmbghpaa.Open Go.Proofs.Ytfcncmhcmbghpaa.OpenB Go.Proofs.Ytfcncmhcmbghpaa.Num Go.Proofs.Ytfcncmhcmbghpaa.Step Go.Proofs.Ytfcncmhcmbghpaa.Wr Go.Proofs.Ytfcncmhcmbghpaa.Bits Go.Proofs.YtfcncmhcmbghpaaW.PrintWords

theorem same_ids {m l : List Enty} (h : m.map Enty.id = l.map Enty.id) : m.length = l.length ∧ ∀ k, k < l.length → (el m k).id = (el l k).id := by
  have hl : m.length = l.length := by have := congrArg List.length h; simpa using this
  refine ⟨hl, fun k hk => ?_⟩
  have h1 : (m.map Enty.id)[k]? = (l.map Enty.id)[k]? := by rw [h]
  rw [List.getElem?_map, List.getElem?_map, el_get m k (by omega), el_get l k hk] at h1
  simpa using h1
theorem dec_nil (b : List Enty) : dec b [] = none := dec_short (by decide)

set_option maxHeartbeats 2000000 in
theorem deltaElse_core (w : World) (va vb vl : Value) (base b l : List Enty) (hva : RdL w va 8 (base.map Enty.cells)) (hvb : RdL w vb 8 (b.map Enty.cells)) (hvl : RdL w vl 8 (l.map Enty.cells)) :
    Calls Try.prog 12 #[va, vb, vl] w fun e' w' => e' = .returned (.bool true) ∧ Below w.heap.size w w' := by
  have HVA := Lib.hid hva
  have HVB := Lib.hid hvb
  have HVL := Lib.hid hvl
  obtain ⟨A, c, rfl, _, _, _⟩ := cells_at hva
  obtain ⟨A', c', rfl, _, _, _⟩ := cells_at hvb
  obtain ⟨A'', c'', rfl, _, _, hrl⟩ := cells_at hvl
  have HRL := Lib.hid hrl
  clear hva hvb hvl hrl
  by_cases hb1 : 40 < base.length
  · have t1 : decide ((40 : Int) < (base.length : Int)) = true := by simp; omega
    go_enter Try.func12, Try.ntmps12
    go_wp2_with fail
    refine (awake17 _).mono ?_
    rintro e' w1 ⟨rfl, h1⟩
    go_wp2_with fail
    refine (awake17 _).mono ?_
    rintro e' w3 ⟨rfl, h4⟩
    go_wp2_with fail
    go_ret
    exact ⟨rfl, h1.trans (h4.mono h1.size)⟩
  · have t1 : decide ((40 : Int) < (base.length : Int)) = false := by simp; omega
    by_cases hb2 : 40 < b.length
    · have t2 : decide ((40 : Int) < (b.length : Int)) = true := by simp; omega
      go_enter Try.func12, Try.ntmps12
      go_wp2_with fail
      refine (awake17 _).mono ?_
      rintro e' w1 ⟨rfl, h1⟩
      go_wp2_with fail
      refine (awake17 _).mono ?_
      rintro e' w3 ⟨rfl, h4⟩
      go_wp2_with fail
      go_ret
      exact ⟨rfl, h1.trans (h4.mono h1.size)⟩
    · have t2 : decide ((40 : Int) < (b.length : Int)) = false := by simp; omega
      by_cases hb3 : 40 < l.length
      · have t3 : decide ((40 : Int) < (l.length : Int)) = true := by simp; omega
        go_enter Try.func12, Try.ntmps12
        go_wp2_with fail
        refine (awake17 _).mono ?_
        rintro e' w1 ⟨rfl, h1⟩
        go_wp2_with fail
        refine (awake17 _).mono ?_
        rintro e' w3 ⟨rfl, h4⟩
        go_wp2_with fail
        go_ret
        exact ⟨rfl, h1.trans (h4.mono h1.size)⟩
      · have t3 : decide ((40 : Int) < (l.length : Int)) = false := by simp; omega
        have H40 := Lib.hid (show l.length ≤ 40 by omega)
        clear hb1 hb2 hb3
        by_cases hf : listB base = true ∧ listB l = true
        · obtain ⟨hf1, hf2⟩ := hf
          have HF1 := Lib.hid hf1
          have HF2 := Lib.hid hf2
          clear hf1 hf2
          go_enter Try.func12, Try.ntmps12
          go_wp2_with fail
          refine (awake17 _).mono ?_
          rintro e' w1 ⟨rfl, h1⟩
          have he := eenc w1 _ _ base l (RdL.below HVA.out h1) (RdL.below HVL.out h1) HF1.out HF2.out H40.out
          have HE := Lib.hid he
          have H1 := Lib.hid h1
          clear he h1
          go_wp2_with fail
          refine HE.out.mono ?_
          rintro e' w2 ⟨v2, rfl, h2⟩
          have hb2 := H1.out.trans (h2.below.mono H1.out.size)
          obtain ⟨A2, c2, rfl⟩ := h2.slice
          have r2 := h2.rd
          rw [← pack_length (encB base l)] at r2
          have HB2 := Lib.hid hb2
          have HR2 := Lib.hid r2
          clear h2 hb2 r2 HE H1
          rw [← pack_length (encB base l)]
          obtain ⟨n2, hn2⟩ : ∃ n2, (pack (encB base l)).length = n2 := ⟨_, rfl⟩
          have hr2 := HR2.out
          rw [hn2] at hr2 ⊢
          have HR2 := Lib.hid hr2
          have HN2 := Lib.hid hn2
          clear hr2 hn2
          cases hfb : listB b with
          | false =>
            have hd := edec_no w2 (.slice A' b.length c') b n2 c2 A2 (RdL.below HVB.out HB2.out) hfb
            have HD := Lib.hid hd
            clear hd hfb
            go_wp2_with fail
            refine HD.out.mono ?_
            rintro e' w3 ⟨rfl, h3⟩
            go_wp2_with fail
            go_ret
            exact ⟨rfl, HB2.out.trans (h3.mono HB2.out.size)⟩
          | true =>
            have hd := edec w2 (.slice A' b.length c') (.slice A2 n2 c2) b (pack (encB base l)) (RdL.below HVB.out HB2.out) (by rw [HN2.out]; exact HR2.out) ⟨pack_le base l H40.out, fun x hx => pack_byte _ x hx⟩ hfb
            have HD := Lib.hid hd
            have HFB := Lib.hid hfb
            clear hd hfb
            go_wp2_with fail
            with_reducible refine HD.out.mono ?_
            rintro e' w3 (⟨m, v3, hm, rfl, h3⟩ | ⟨hno, rfl, h3⟩)
            · obtain ⟨q1, q2, q3⟩ := dec_some ((listB_true _).1 HFB.out) (fun x hx => pack_byte _ x hx) hm
              obtain ⟨_, _, p3⟩ := dec_some ((listB_true _).1 HF1.out) (fun x hx => pack_byte (encB base l) x hx) (dec_enc ((listB_true _).1 HF1.out) ((listB_true _).1 HF2.out))
              have hids := same_ids (q3.trans p3.symm)
              have hb3 := HB2.out.trans (h3.below.mono HB2.out.size)
              have r3 := Holds.rdL h3
              have he := eenc w3 _ _ b m (RdL.below HVB.out hb3) r3 HFB.out ((listB_true _).2 q1) (dec_len q3)
              obtain ⟨A3, c3, rfl⟩ := h3.slice
              have HE := Lib.hid he
              have HB3 := Lib.hid hb3
              have HR3 := Lib.hid r3
              have HR23 := Lib.hid (Rd.below HR2.out h3.below)
              have HQ2 := Lib.hid q2
              have HIDS := Lib.hid hids
              have HLM := Lib.hid ((listB_true _).2 q1)
              clear hm h3 hb3 r3 he HD HB2 q1 q2 q3 p3 hids
              go_wp2_with fail
              refine HE.out.mono ?_
              rintro e' w4 ⟨v4, rfl, h4⟩
              have hb4 := HB3.out.trans (h4.below.mono HB3.out.size)
              have hl4 := erlist w4 _ m (RdL.below HR3.out h4.below)
              rw [HLM.out] at hl4
              obtain ⟨A4, c4, rfl⟩ := h4.slice
              have r4 := h4.rd
              have hn4 : nby (encB b m) = n2 := by rw [← pack_length, ← HQ2.out]; exact HN2.out
              rw [hn4] at r4 ⊢
              rw [← HQ2.out] at r4
              have hrd2 := Rd.below HR23.out h4.below
              have H4R := Lib.hid (RdL.below HR3.out h4.below)
              have HL4 := Lib.hid hl4
              have HB4 := Lib.hid hb4
              have HR4 := Lib.hid r4
              have HRD2 := Lib.hid hrd2
              clear h4 hb4 hl4 r4 hrd2 hn4 HE HB3 HR3 HR23
              have hml := HIDS.out.1
              have tml : ((m.length : Int) != (l.length : Int)) = false := by rw [hml]; simp
              clear hml
              go_wp2_with fail
              refine HL4.out.mono ?_
              rintro e' w5 ⟨rfl, h5⟩
              have hs := same w5 (.slice A2 n2 c2) (.slice A4 n2 c4) (pack (encB base l)) (pack (encB base l)) (by rw [HN2.out]; exact Rd.below HRD2.out h5) (by rw [HN2.out]; exact Rd.below HR4.out h5)
              rw [decide_eq_true rfl] at hs
              have HS := Lib.hid hs
              have HB5 := Lib.hid (HB4.out.trans (h5.mono HB4.out.size))
              have H5R := Lib.hid (RdL.below H4R.out h5)
              clear hs h5 HL4 HB4 H4R
              go_wp2_with fail
              refine HS.out.mono ?_
              rintro e' w6 ⟨rfl, hd⟩
              have hm6 := RdL.below H5R.out hd.below
              have hb6 := HB5.out.trans (hd.below.mono HB5.out.size)
              obtain ⟨A6, c6, he6, _, _, hr6⟩ := cells_at hm6
              simp only [Value.slice.injEq, true_and] at he6
              obtain ⟨rfl, rfl⟩ := he6
              have HR6 := Lib.hid hr6
              have HB6 := Lib.hid hb6
              clear hm6 hb6 hr6 hd HS HB5 H5R
              go_wp2_with fail
              go_loopw [13] (fun i wr => ∃ k : Nat, k ≤ l.length ∧ i = .int .i64 k ∧ Below w.heap.size w wr ∧ Below w6.heap.size w6 wr)
                (fun i _ => l.length - (intOf i).toNat)
              case atStart => exact ⟨0, Nat.zero_le _, rfl, HB6.out, Below.refl _ _⟩
              case round =>
                obtain ⟨k, hk, rfl, hb, hbw⟩ := hrel
                by_cases hkn : k < l.length
                · have hkm : k < m.length := by rw [HIDS.out.1]; exact hkn
                  obtain ⟨g, off, rfl, hlt, c0, _⟩ := HRL.out k hkn
                  obtain ⟨g', off', rfl, hlt', d0, _⟩ := HR6.out k hkm
                  have E0 := cell_regrown ((hb.cell (p := ⟨g, off + k * 8, none⟩) hlt).trans c0)
                  have G0 := cell_regrown ((hbw.cell (p := ⟨g', off' + k * 8, none⟩) hlt').trans d0)
                  have hid := HIDS.out.2 k hkn
                  obtain ⟨x, hx⟩ : ∃ x, (el l k).id = x := ⟨_, rfl⟩
                  rw [hid, hx] at G0
                  rw [hx] at E0
                  have ts := succ_len k (Nat.lt_of_lt_of_le hkn (Nat.le_trans H40.out (by decide)))
                  have TS := Lib.hid ts
                  have k0 : (0 : Int) ≤ (k : Int) := Int.natCast_nonneg k
                  have k1 : (k : Int) < (l.length : Int) := Int.ofNat_lt.2 hkn
                  have k2 : (k : Int) < (m.length : Int) := Int.ofNat_lt.2 hkm
                  have HBB := Lib.hid (And.intro hb hbw)
                  clear c0 d0 hid hx ts hb hbw hlt hlt' hkm
                  go_wp2_with fail
                  refine wp_region_quiet_below (by kernel_rfl) (by kernel_rfl) ?_
                  repeat (go_big_quiet_step (fail))
                  refine wpQuiet_nil ?_
                  intro _ hw'
                  obtain ⟨⟨dq, osq⟩, hw''⟩ := hw'
                  subst hw''
                  have hbx := below_regrown wr dq osq
                  clear E0 G0
                  generalize grow (redrawn wr dq) osq = w9 at *
                  have HB9 := Lib.hid (And.intro (HBB.out.1.trans (hbx.mono HBB.out.1.size)) (HBB.out.2.trans (hbx.mono HBB.out.2.size)))
                  clear hbx HBB
                  go_wp2_with fail
                  try rw [TS.out]
                  exact ⟨⟨k + 1, hkn, cast_succ k, HB9.out.1, HB9.out.2⟩, succ_less hkn⟩
                · obtain rfl : k = l.length := Nat.le_antisymm hk (Nat.le_of_not_lt hkn)
                  go_wp2_with fail
                  go_ret
                  exact ⟨rfl, hb⟩
            · have HBL := Lib.hid (HB2.out.trans (h3.mono HB2.out.size))
              clear hno h3 HD
              go_wp2_with fail
              go_ret
              exact ⟨rfl, HBL.out⟩
        · have HNO := Lib.hid hf
          clear hf
          go_enter Try.func12, Try.ntmps12
          go_wp2_with fail
          refine (awake17 _).mono ?_
          rintro e' w1 ⟨rfl, h1⟩
          have he := eenc_no w1 _ _ base l (RdL.below HVA.out h1) (RdL.below HVL.out h1) HNO.out
          have HE := Lib.hid he
          have H1 := Lib.hid h1
          clear he h1
          go_wp2_with fail
          refine HE.out.mono ?_
          rintro e' w2 ⟨rfl, h2⟩
          have HB2 := Lib.hid (H1.out.trans (h2.mono H1.out.size))
          clear h2 HE H1
          cases hfb : listB b with
          | false =>
            have hd := edec_no w2 (.slice A' b.length c') b 0 0 none (RdL.below HVB.out HB2.out) hfb
            have HD := Lib.hid hd
            clear hd hfb
            go_wp2_with fail
            refine HD.out.mono ?_
            rintro e' w3 ⟨rfl, h3⟩
            go_wp2_with fail
            go_ret
            exact ⟨rfl, HB2.out.trans (h3.mono HB2.out.size)⟩
          | true =>
            have hd := edec w2 (.slice A' b.length c') (.slice none 0 0) b [] (RdL.below HVB.out HB2.out) (.inl ⟨rfl, rfl, rfl⟩) ⟨by decide, fun x hx => by cases hx⟩ hfb
            have HD := Lib.hid hd
            clear hd hfb
            go_wp2_with fail
            refine HD.out.mono ?_
            rintro e' w3 (⟨m, v3, hm, _⟩ | ⟨hno, rfl, h3⟩)
            · rw [dec_nil] at hm
              cases hm
            · have HBL := Lib.hid (HB2.out.trans (h3.mono HB2.out.size))
              clear hno h3 HD
              go_wp2_with fail
              go_ret
              exact ⟨rfl, HBL.out⟩

theorem deltaElse (w : World) {H : Type} {enc : TypeId × Value → H} {base base' base2 base2' base3 base3' : Nat} {sp sp2 sp3 : Nat → Bool} {held held2 held3 : Bool} {d d2 d3 : DataW H} {ps ps2 ps3 : List MemPlace} {r r2 r3 : Reach} (v0 : Value)
    (hok0 : Value.okWide Try.prog w r base' 22 v0) (h0 : DataW.Trod enc Try.prog w base sp held 22 v0 d ps) (v : Value)
    (hok : Value.okWide Try.prog w r2 base2' 22 v) (h : DataW.Trod enc Try.prog w base2 sp2 held2 22 v d2 ps2) (v3 : Value)
    (hok3 : Value.okWide Try.prog w r3 base3' 22 v3) (h3 : DataW.Trod enc Try.prog w base3 sp3 held3 22 v3 d3 ps3) :
    Calls Try.prog 12 #[v0, v, v3] w fun e' w' => e' = .returned (.bool true) ∧ Below w.heap.size w w' := by
  obtain ⟨la, hva, _⟩ := open_ents hok0 h0
  obtain ⟨lb, hvb, _⟩ := open_ents hok h
  obtain ⟨l, hvl, _⟩ := open_ents hok3 h3
  exact deltaElse_core w v0 v v3 la lb l hva hvb hvl

end Go.Proofs.Ytfcncmhcmbghpaa.Ents
