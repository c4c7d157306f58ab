/- A delta that is refused; by the program and by the reference. -/
import Derived.Test.YtfcncmhcmbghpaaEEnc
import Derived.Test.YtfcncmhcmbghpaaERList
set_option linter.unusedVariables false
set_option linter.unusedSimpArgs false
namespace Go.Proofs.Ytfcncmhcmbghpaa.Ents
open Go.Sort Go.RowKit Go.Proofs.Ytfcncmhcmbghpaa.Mem Go.Proofs.Ytfcncmhcmbghpaa.Open Go.Proofs.Ytfcncmhcmbghpaa.Num Go.Proofs.Ytfcncmhcmbghpaa.Step

set_option maxHeartbeats 1000000 in
theorem eenc_no (w : World) (vb vl : Value) (base l : List Enty) (hvb : RdL w vb 8 (base.map Enty.cells)) (hvl : RdL w vl 8 (l.map Enty.cells)) (hno : ¬ (listB base = true ∧ listB l = true)) :
    Calls Try.prog 30 #[vb, vl] w fun e' w' => e' = .returned (.tuple #[.slice none 0 0, .int .i64 1]) ∧ Below w.heap.size w w' := by
  have HVL := Lib.hid hvl
  have h1 := elist w vb base hvb
  cases hb : listB base with
  | false =>
    rw [hb] at h1
    have H1 := Lib.hid h1
    clear h1 hvl hvb hno hb
    go_enter Try.func30, Try.ntmps30
    go_wp2_with fail
    refine H1.out.mono ?_
    rintro e' w1 ⟨rfl, h2⟩
    go_wp2_with fail
    exact bodyPost_ret (results_tmp2 rfl _ _ _) rfl ⟨rfl, h2⟩
  | true =>
    rw [hb] at h1
    have hl : listB l = false := by
      cases h : listB l with
      | false => rfl
      | true => exact absurd ⟨hb, h⟩ hno
    have H1 := Lib.hid h1
    have HL := Lib.hid hl
    clear h1 hvl hvb hno hb hl
    go_enter Try.func30, Try.ntmps30
    go_wp2_with fail
    refine H1.out.mono ?_
    rintro e' w1 ⟨rfl, h2⟩
    have h3 := elist w1 vl l (RdL.below HVL.out h2)
    rw [HL.out] at h3
    have H3 := Lib.hid h3
    clear h3 H1
    go_wp2_with fail
    refine H3.out.mono ?_
    rintro e' w2 ⟨rfl, h4⟩
    go_wp2_with fail
    exact bodyPost_ret (results_tmp2 rfl _ _ _) rfl ⟨rfl, h2.trans (h4.mono h2.size)⟩

set_option maxHeartbeats 1000000 in
theorem erenc_no (w : World) (vb vl : Value) (base l : List Enty) (hvb : RdL w vb 8 (base.map Enty.cells)) (hvl : RdL w vl 8 (l.map Enty.cells)) (hno : ¬ (listB base = true ∧ listB l = true)) :
    Calls Try.prog 31 #[vb, vl] w fun e' w' => e' = .returned (.tuple #[.slice none 0 0, .int .i64 1]) ∧ Below w.heap.size w w' := by
  have HVL := Lib.hid hvl
  have h1 := erlist w vb base hvb
  cases hb : listB base with
  | false =>
    rw [hb] at h1
    have H1 := Lib.hid h1
    clear h1 hvl hvb hno hb
    go_enter Try.func31, Try.ntmps31
    go_wp2_with fail
    refine H1.out.mono ?_
    rintro e' w1 ⟨rfl, h2⟩
    go_wp2_with fail
    exact bodyPost_ret (results_tmp2 rfl _ _ _) rfl ⟨rfl, h2⟩
  | true =>
    rw [hb] at h1
    have hl : listB l = false := by
      cases h : listB l with
      | false => rfl
      | true => exact absurd ⟨hb, h⟩ hno
    have H1 := Lib.hid h1
    have HL := Lib.hid hl
    clear h1 hvl hvb hno hb hl
    go_enter Try.func31, Try.ntmps31
    go_wp2_with fail
    refine H1.out.mono ?_
    rintro e' w1 ⟨rfl, h2⟩
    have h3 := erlist w1 vl l (RdL.below HVL.out h2)
    rw [HL.out] at h3
    have H3 := Lib.hid h3
    clear h3 H1
    go_wp2_with fail
    refine H3.out.mono ?_
    rintro e' w2 ⟨rfl, h4⟩
    go_wp2_with fail
    exact bodyPost_ret (results_tmp2 rfl _ _ _) rfl ⟨rfl, h2.trans (h4.mono h2.size)⟩

end Go.Proofs.Ytfcncmhcmbghpaa.Ents
