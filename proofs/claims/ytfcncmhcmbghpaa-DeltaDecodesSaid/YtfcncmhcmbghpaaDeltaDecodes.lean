/- The law DeltaDecodes: on every base all bytes are read as the list whose delta they are, or refused. For all lists and bytes; no condition. Here: the walk. -/
import Derived.Test.YtfcncmhcmbghpaaERDec
import Derived.Test.YtfcncmhcmbghpaaDeltaBack
set_option linter.unusedVariables false
set_option linter.unusedSimpArgs false
namespace Go.Proofs.Ytfcncmhcmbghpaa.Ents
open Go.Sort Go.RowKit Go.Proofs.Ytfcncmhcmbghpaa.Mem Go.Proofs.Ytfcncmhcmbghpaa.Open Go.Proofs.Ytfcncmhcmbghpaa.OpenB Go.Proofs.Ytfcncmhcmbghpaa.Num Go.Proofs.Ytfcncmhcmbghpaa.Step Go.Proofs.Ytfcncmhcmbghpaa.Wr Go.Proofs.Ytfcncmhcmbghpaa.Bits Go.Proofs.YtfcncmhcmbghpaaW.PrintWords

set_option maxHeartbeats 2000000 in
theorem deltaDecodes_core (w : World) (vb vx : Value) (base : List Enty) (bs : List Int) (hvb : RdL w vb 8 (base.map Enty.cells)) (hvx : Rd w vx bs.length (nums .u8 bs)) (hby : ∀ o, o ∈ bs → 0 ≤ o ∧ o < 256) :
    Calls Try.prog 9 #[vb, vx] w fun e' w' => e' = .returned (.bool true) ∧ Below w.heap.size w w' := by
  have HVB := Lib.hid hvb
  have HVX := Lib.hid hvx
  obtain ⟨A, c, rfl, _, _, _⟩ := cells_at hvb
  obtain ⟨A'', c'', rfl, _, _, _⟩ := Rd.form hvx (by simp [nums])
  clear hvb hvx
  by_cases hb1 : 40 < base.length
  · have t1 : decide ((40 : Int) < (base.length : Int)) = true := by simp; omega
    go_enter Try.func9, Try.ntmps9
    go_wp2_with fail
    refine (awake17 _).mono ?_
    rintro e' w1 ⟨rfl, h1⟩
    go_wp2_with fail
    refine (awake17 _).mono ?_
    rintro e' w3 ⟨rfl, h4⟩
    go_wp2_with fail
    go_ret
    exact ⟨rfl, h1.trans (h4.mono h1.size)⟩
  · have t1 : decide ((40 : Int) < (base.length : Int)) = false := by simp; omega
    by_cases hb3 : 1000 < bs.length
    · have t3 : decide ((1000 : Int) < (bs.length : Int)) = true := by simp; omega
      go_enter Try.func9, Try.ntmps9
      go_wp2_with fail
      refine (awake17 _).mono ?_
      rintro e' w1 ⟨rfl, h1⟩
      go_wp2_with fail
      refine (awake17 _).mono ?_
      rintro e' w3 ⟨rfl, h4⟩
      go_wp2_with fail
      go_ret
      exact ⟨rfl, h1.trans (h4.mono h1.size)⟩
    · have t3 : decide ((1000 : Int) < (bs.length : Int)) = false := by simp; omega
      have HBK : Hid (bytesOk bs) := ⟨by omega, hby⟩
      clear hby hb1 hb3
      cases hf1 : listB base with
      | false =>
        have HF1 := Lib.hid hf1
        clear hf1
        go_enter Try.func9, Try.ntmps9
        go_wp2_with fail
        refine (awake17 _).mono ?_
        rintro e' w1 ⟨rfl, h1⟩
        have hd := edec_no w1 _ base bs.length c'' A'' (RdL.below HVB.out h1) HF1.out
        have HD := Lib.hid hd
        have H1 := Lib.hid h1
        clear hd h1
        go_wp2_with fail
        refine HD.out.mono ?_
        rintro e' w2 ⟨rfl, h2⟩
        have hb2 := H1.out.trans (h2.mono H1.out.size)
        have hd := erdec_no w2 _ base bs.length c'' A'' (RdL.below HVB.out hb2) HF1.out
        have HD2 := Lib.hid hd
        have HB2 := Lib.hid hb2
        clear h2 hb2 hd HD H1
        go_wp2_with fail
        refine HD2.out.mono ?_
        rintro e' w3 ⟨rfl, h3⟩
        have hs := ersame w3 (.slice none 0 0) (.slice none 0 0) [] (.inl ⟨rfl, rfl⟩) (.inl ⟨rfl, rfl⟩)
        have HS := Lib.hid hs
        have HB3 := Lib.hid (HB2.out.trans (h3.mono HB2.out.size))
        clear hs h3 HD2 HB2
        go_wp2_with fail
        refine HS.out.mono ?_
        rintro e' w4 ⟨rfl, h4⟩
        go_wp2_with fail
        go_ret
        exact ⟨rfl, HB3.out.trans (h4.mono HB3.out.size)⟩
      | true =>
        have HB1 := Lib.hid hf1
        clear hf1
        go_enter Try.func9, Try.ntmps9
        go_wp2_with fail
        refine (awake17 _).mono ?_
        rintro e' w1 ⟨rfl, h1⟩
        have hd := edec w1 _ _ base bs (RdL.below HVB.out h1) (Rd.below HVX.out h1) HBK.out HB1.out
        have HD := Lib.hid hd
        have H1 := Lib.hid h1
        clear hd h1
        go_wp2_with fail
        refine HD.out.mono ?_
        rintro e' w2 (⟨m, v2, hm, rfl, h2⟩ | ⟨hno, rfl, h2⟩)
        · have hb2 := H1.out.trans (h2.below.mono H1.out.size)
          have r2 := Holds.rdL h2
          have hd := erdec w2 _ _ base bs (RdL.below HVB.out hb2) (Rd.below HVX.out hb2) HBK.out HB1.out
          rw [hm] at hd
          obtain ⟨A2, c2, rfl⟩ := h2.slice
          have HD2 := Lib.hid hd
          have HB2 := Lib.hid hb2
          have HR2 := Lib.hid r2
          clear h2 hb2 hd r2 HD H1 hm
          go_wp2_with fail
          refine HD2.out.mono ?_
          rintro e' w3 (⟨m', v3, hm, rfl, h3⟩ | ⟨hno, _⟩)
          · obtain rfl : m = m' := Option.some.inj hm
            have hs := ersame w3 _ v3 m (RdL.below HR2.out h3.below) (Holds.rdL h3)
            obtain ⟨A3, c3, rfl⟩ := h3.slice
            have HS := Lib.hid hs
            have HB3 := Lib.hid (HB2.out.trans (h3.below.mono HB2.out.size))
            clear hs h3 HD2 HB2 HR2 hm
            go_wp2_with fail
            refine HS.out.mono ?_
            rintro e' w4 ⟨rfl, h4⟩
            go_wp2_with fail
            go_ret
            exact ⟨rfl, HB3.out.trans (h4.mono HB3.out.size)⟩
          · cases hno
        · have hb2 := H1.out.trans (h2.mono H1.out.size)
          have hd := erdec w2 _ _ base bs (RdL.below HVB.out hb2) (Rd.below HVX.out hb2) HBK.out HB1.out
          rw [hno] at hd
          have HD2 := Lib.hid hd
          have HB2 := Lib.hid hb2
          clear h2 hb2 hd HD H1 hno
          go_wp2_with fail
          refine HD2.out.mono ?_
          rintro e' w3 (⟨m', v3, hm, _⟩ | ⟨_, rfl, h3⟩)
          · cases hm
          · have hs := ersame w3 (.slice none 0 0) (.slice none 0 0) [] (.inl ⟨rfl, rfl⟩) (.inl ⟨rfl, rfl⟩)
            have HS := Lib.hid hs
            have HB3 := Lib.hid (HB2.out.trans (h3.mono HB2.out.size))
            clear hs h3 HD2 HB2
            go_wp2_with fail
            refine HS.out.mono ?_
            rintro e' w4 ⟨rfl, h4⟩
            go_wp2_with fail
            go_ret
            exact ⟨rfl, HB3.out.trans (h4.mono HB3.out.size)⟩

theorem deltaDecodes (w : World) {H : Type} {enc : TypeId × Value → H} {base base' base3 base3' : Nat} {sp sp3 : Nat → Bool} {held held3 : Bool} {d d3 : DataW H} {ps ps3 : List MemPlace} {r r3 : Reach} (v0 : Value)
    (hok0 : Value.okWide Try.prog w r base' 22 v0) (h0 : DataW.Trod enc Try.prog w base sp held 22 v0 d ps) (v3 : Value)
    (hok3 : Value.okWide Try.prog w r3 base3' 35 v3) (h3 : DataW.Trod enc Try.prog w base3 sp3 held3 35 v3 d3 ps3) :
    Calls Try.prog 9 #[v0, v3] w fun e' w' => e' = .returned (.bool true) ∧ Below w.heap.size w w' := by
  obtain ⟨lb, hvb, _⟩ := open_ents hok0 h0
  obtain ⟨bs, hx, hby⟩ := open_bytes hok3 h3
  exact deltaDecodes_core w v0 v3 lb bs hvb hx hby

end Go.Proofs.Ytfcncmhcmbghpaa.Ents
