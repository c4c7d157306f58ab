/- The law DeltaEncodes: of all bases and lists the delta's bytes are told, or they are refused. For all lists; no condition. Here: the walk. -/
import Derived.Test.YtfcncmhcmbghpaaEREnc
import Derived.Test.YtfcncmhcmbghpaaEEncNo
import Derived.Test.YtfcncmhcmbghpaaEntOpen
import Derived.Test.YtfcncmhcmbghpaaSame
set_option linter.unusedVariables false
set_option linter.unusedSimpArgs false
namespace Go.Proofs.Ytfcncmhcmbghpaa.Ents
open Go.Sort Go.RowKit Go.Proofs.Ytfcncmhcmbghpaa.Mem Go.Proofs.Ytfcncmhcmbghpaa.Open Go.Proofs.Ytfcncmhcmbghpaa.Num Go.Proofs.Ytfcncmhcmbghpaa.Step Go.Proofs.Ytfcncmhcmbghpaa.Wr Go.Proofs.Ytfcncmhcmbghpaa.Bits Go.Proofs.YtfcncmhcmbghpaaW.PrintWords

theorem list_nil : listB [] = true := (listB_true _).2 (fun j hj => by simp at hj)
theorem enc_nil : nby (encB [] []) = 2 := by
  have : (encB [] []).length = 16 := by unfold encB; rw [List.length_append, there_len]; rfl
  unfold nby
  omega

set_option maxHeartbeats 1000000 in
theorem awake17 (w : World) : Calls Try.prog 29 #[] w fun e' w' => e' = .returned (.bool true) ∧ Below w.heap.size w w' := by
  have h := eenc w (.slice none 0 0) (.slice none 0 0) [] [] (.inl ⟨rfl, rfl⟩) (.inl ⟨rfl, rfl⟩) list_nil list_nil (by decide)
  rw [enc_nil] at h
  have H := Lib.hid h
  clear h
  go_enter Try.func29, Try.ntmps29
  go_wp2_with fail
  refine H.out.mono ?_
  rintro e' w1 ⟨v', rfl, h1⟩
  obtain ⟨A, c, rfl⟩ := h1.slice
  have H1 := Lib.hid h1.below
  clear h1 H
  go_wp2_with fail
  go_ret
  exact ⟨rfl, H1.out⟩

set_option maxHeartbeats 1000000 in
theorem deltaEncodes_core (w : World) (vb vl : Value) (base l : List Enty) (hvb : RdL w vb 8 (base.map Enty.cells)) (hvl : RdL w vl 8 (l.map Enty.cells)) :
    Calls Try.prog 8 #[vb, vl] w fun e' w' => e' = .returned (.bool true) ∧ Below w.heap.size w w' := by
  have HVB := Lib.hid hvb
  have HVL := Lib.hid hvl
  obtain ⟨A, c, rfl, _, _, _⟩ := cells_at hvb
  obtain ⟨A', c', rfl, _, _, _⟩ := cells_at hvl
  clear hvb hvl
  by_cases hb1 : 40 < base.length
  · have t1 : decide ((40 : Int) < (base.length : Int)) = true := by simp; omega
    go_enter Try.func8, Try.ntmps8
    go_wp2_with fail
    refine (awake17 _).mono ?_
    rintro e' w1 ⟨rfl, h1⟩
    go_wp2_with fail
    refine (awake17 _).mono ?_
    rintro e' w3 ⟨rfl, h4⟩
    go_wp2_with fail
    go_ret
    exact ⟨rfl, h1.trans (h4.mono h1.size)⟩
  · have t1 : decide ((40 : Int) < (base.length : Int)) = false := by simp; omega
    by_cases hb2 : 40 < l.length
    · have t2 : decide ((40 : Int) < (l.length : Int)) = true := by simp; omega
      go_enter Try.func8, Try.ntmps8
      go_wp2_with fail
      refine (awake17 _).mono ?_
      rintro e' w1 ⟨rfl, h1⟩
      go_wp2_with fail
      refine (awake17 _).mono ?_
      rintro e' w3 ⟨rfl, h4⟩
      go_wp2_with fail
      go_ret
      exact ⟨rfl, h1.trans (h4.mono h1.size)⟩
    · have t2 : decide ((40 : Int) < (l.length : Int)) = false := by simp; omega
      have H40 := Lib.hid (show l.length ≤ 40 by omega)
      by_cases hf : listB base = true ∧ listB l = true
      · obtain ⟨hf1, hf2⟩ := hf
        have HF1 := Lib.hid hf1
        have HF2 := Lib.hid hf2
        clear hf1 hf2 hb1 hb2
        go_enter Try.func8, Try.ntmps8
        go_wp2_with fail
        refine (awake17 _).mono ?_
        rintro e' w1 ⟨rfl, h1⟩
        have he := eenc w1 _ _ base l (RdL.below HVB.out h1) (RdL.below HVL.out h1) HF1.out HF2.out H40.out
        have HE := Lib.hid he
        have H1 := Lib.hid h1
        clear he h1
        go_wp2_with fail
        refine HE.out.mono ?_
        rintro e' w2 ⟨v2, rfl, h2⟩
        have hb2 := H1.out.trans (h2.below.mono H1.out.size)
        have he2 := erenc w2 _ _ base l (RdL.below HVB.out hb2) (RdL.below HVL.out hb2) HF1.out HF2.out H40.out
        have HE2 := Lib.hid he2
        have H2 := Lib.hid h2
        have HB2 := Lib.hid hb2
        clear he2 h2 hb2 HE H1
        go_wp2_with fail
        refine HE2.out.mono ?_
        rintro e' w3 ⟨v3, rfl, h3⟩
        have r2 := Rd.below H2.out.rd h3.below
        have r3 := h3.rd
        rw [← pack_length (encB base l)] at r2 r3
        have hs := same w3 _ _ _ _ r2 r3
        rw [decide_eq_true rfl] at hs
        have HS := Lib.hid hs
        have HB3 := Lib.hid (HB2.out.trans (h3.below.mono HB2.out.size))
        clear r2 r3 hs h3 H2 HE2
        go_wp2_with fail
        refine HS.out.mono ?_
        rintro e' w4 ⟨rfl, hd⟩
        go_wp2_with fail
        go_ret
        exact ⟨rfl, HB3.out.trans (hd.below.mono HB3.out.size)⟩
      · have HNO := Lib.hid hf
        clear hf hb1 hb2
        go_enter Try.func8, Try.ntmps8
        go_wp2_with fail
        refine (awake17 _).mono ?_
        rintro e' w1 ⟨rfl, h1⟩
        have he := eenc_no w1 _ _ base l (RdL.below HVB.out h1) (RdL.below HVL.out h1) HNO.out
        have HE := Lib.hid he
        have H1 := Lib.hid h1
        clear he h1
        go_wp2_with fail
        refine HE.out.mono ?_
        rintro e' w2 ⟨rfl, h2⟩
        have hb2 := H1.out.trans (h2.mono H1.out.size)
        have he2 := erenc_no w2 _ _ base l (RdL.below HVB.out hb2) (RdL.below HVL.out hb2) HNO.out
        have HE2 := Lib.hid he2
        have HB2 := Lib.hid hb2
        clear he2 h2 hb2 HE H1
        go_wp2_with fail
        refine HE2.out.mono ?_
        rintro e' w3 ⟨rfl, h3⟩
        have hs := same w3 (.slice none 0 0) (.slice none 0 0) [] [] (.inl ⟨rfl, rfl, rfl⟩) (.inl ⟨rfl, rfl, rfl⟩)
        rw [decide_eq_true rfl] at hs
        have HS := Lib.hid hs
        have HB3 := Lib.hid (HB2.out.trans (h3.mono HB2.out.size))
        clear hs h3 HE2
        go_wp2_with fail
        refine HS.out.mono ?_
        rintro e' w4 ⟨rfl, hd⟩
        go_wp2_with fail
        go_ret
        exact ⟨rfl, HB3.out.trans (hd.below.mono HB3.out.size)⟩

theorem deltaEncodes (w : World) {H : Type} {enc : TypeId × Value → H} {base base' base2 base2' : Nat} {sp sp2 : Nat → Bool} {held held2 : Bool} {d d2 : DataW H} {ps ps2 : List MemPlace} {r r2 : Reach} (v0 : Value)
    (hok0 : Value.okWide Try.prog w r base' 22 v0) (h0 : DataW.Trod enc Try.prog w base sp held 22 v0 d ps) (v : Value)
    (hok : Value.okWide Try.prog w r2 base2' 22 v) (h : DataW.Trod enc Try.prog w base2 sp2 held2 22 v d2 ps2) :
    Calls Try.prog 8 #[v0, v] w fun e' w' => e' = .returned (.bool true) ∧ Below w.heap.size w w' := by
  obtain ⟨lb, hvb, _⟩ := open_ents hok0 h0
  obtain ⟨l, hv, _⟩ := open_ents hok h
  exact deltaEncodes_core w v0 v lb l hvb hv

end Go.Proofs.Ytfcncmhcmbghpaa.Ents
