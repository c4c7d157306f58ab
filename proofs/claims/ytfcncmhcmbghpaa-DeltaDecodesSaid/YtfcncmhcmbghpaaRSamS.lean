/- Are bits just those of a small number? By the reference. And how many bits are left, and whether all was read. -/
import Derived.Test.YtfcncmhcmbghpaaRRd
import Derived.Test.YtfcncmhcmbghpaaRef6b
import Derived.Test.YtfcncmhcmbghpaaRefSP
set_option linter.unusedVariables false
set_option linter.unusedSimpArgs false
namespace Go.Proofs.Ytfcncmhcmbghpaa.RRd
open Go.Sort Go.RowKit Go.Proofs.Ytfcncmhcmbghpaa.Mem Go.Proofs.Ytfcncmhcmbghpaa.Bits Go.Proofs.Ytfcncmhcmbghpaa.Wr Go.Proofs.Ytfcncmhcmbghpaa.Num Go.Proofs.Ytfcncmhcmbghpaa.Step Go.Proofs.YtfcncmhcmbghpaaW.PrintWords

theorem len_ne {a b : Nat} (h : a = b) : ((a : Int) != (b : Int)) = false := by rw [h]; simp
theorem len_ne' {a b : Nat} (h : ¬ a = b) : ((a : Int) != (b : Int)) = true := by simp only [bne_iff_ne, ne_eq]; omega
theorem bools_len (l : List Bool) : (bools l).length = l.length := by simp [bools]

set_option maxHeartbeats 1000000 in
theorem rsamS (w : World) (v : Value) (l : List Bool) (x : Int) (hr : Rd w v l.length (bools l)) (hl : l.length ≤ 1000) (hx0 : -9223372036854775808 ≤ x) (hx : x ≤ 9223372036854775807) :
    Calls Try.prog 63 #[v, .int .i64 x] w fun e' w' => e' = .returned (.bool (decide (l = smallB (zig x).toNat))) ∧ Below w.heap.size w w' := by
  obtain ⟨A, c, rfl, hc, hm, hrr⟩ := Rd.form hr (bools_len _)
  have HR := Lib.hid hrr
  have hf := rfresh (Holds.start w) 44
  have hs := rsmall w w.heap.size _ _ _ _ _ x hf hx0 hx (by decide)
  rw [List.nil_append] at hs
  obtain ⟨S, hS⟩ : ∃ S, smallB (zig x).toNat = S := ⟨_, rfl⟩
  rw [hS] at hs ⊢
  have HS := Lib.hid hs
  have HL := Lib.hid hl
  clear hr hrr hf hs hm hc hS hx0 hx
  by_cases hne : S.length = l.length
  · have t1 := len_ne hne
    have HNE := Lib.hid hne
    clear hne hl
    go_enter Try.func63, Try.ntmps63
    go_wp2_with fail
    refine HS.out.mono ?_
    rintro e' w1 ⟨rfl, vs, h1⟩
    obtain ⟨As, cs, rfl⟩ := h1.up1.slice
    have c0 := h1.cell 0 rfl
    have H1 := Lib.hid h1
    clear h1 HS
    go_wp2_with fail
    clear c0
    go_loopw [6] (fun i wr => ∃ k : Nat, k ≤ l.length ∧ i = .int .i64 k ∧ (∀ j, j < k → l[j]? = S[j]?) ∧ Holds w w.heap.size wr (.st w.heap.size [.slice As S.length cs] 44 :: .rw (.slice As S.length cs) 4 1 S.length (bools S) :: []))
      (fun i _ => l.length - (intOf i).toNat)
    case atStart => exact ⟨0, Nat.zero_le _, rfl, fun j hj => absurd hj (Nat.not_lt_zero _), H1.out⟩
    case round =>
      obtain ⟨k, hk, rfl, heq, hH⟩ := hrel
      clear H1
      by_cases hkn : k < l.length
      · obtain ⟨k0, k1, k2, k3⟩ := loop_facts hkn HL.out
        have HK := Lib.hid k2
        obtain ⟨b, off, rfl, hlt, hcell⟩ := HR.out k hkn
        obtain ⟨t, ht⟩ : ∃ t, l[k]? = some t := ⟨_, List.getElem?_eq_getElem hkn⟩
        have hks : k < S.length := by rw [HNE.out]; exact hkn
        obtain ⟨s, hsv⟩ : ∃ s, S[k]? = some s := ⟨_, List.getElem?_eq_getElem hks⟩
        obtain ⟨g, cp, he, _⟩ := hH.up1.row (Nat.lt_of_le_of_lt (Nat.zero_le _) hks)
        simp only [Value.slice.injEq] at he
        obtain ⟨rfl, _, rfl⟩ := he
        have k4 : (k : Int) < (S.length : Int) := Int.ofNat_lt.2 hks
        have E0 := cell_regrown ((hH.below.cell (p := ⟨b, off + k, none⟩) hlt).trans (hcell _ (bools_at ht)))
        have E1 := cell_regrown (hH.cell 0 rfl)
        have E2 := cell_regrown ((hH.up1.rcell k (by rw [Nat.mul_one]; exact hks)).trans (bools_at hsv))
        have HH := Lib.hid hH
        have HEQ := Lib.hid heq
        have HT := Lib.hid ht
        have HSV := Lib.hid hsv
        clear hH heq ht hsv hcell k2 k3 hks hlt
        by_cases hts : t = s
        · subst hts
          have tt : (t != t) = false := by simp
          go_wp2_with fail
          refine wp_region_quiet_below (by kernel_rfl) (by kernel_rfl) ?_
          repeat (go_big_quiet_step (fail))
          refine wpQuiet_nil ?_
          intro _ hw'
          obtain ⟨⟨dq, osq⟩, hw''⟩ := hw'
          subst hw''
          have hbx := below_regrown wr dq osq
          clear E0 E1 E2
          generalize grow (redrawn wr dq) osq = w5 at *
          have H5 := Lib.hid (hbelowed HH.out hbx)
          clear hbx HH
          go_wp2_with fail
          try rw [HK.out]
          refine ⟨⟨k + 1, hkn, cast_succ k, fun j hj => ?_, H5.out⟩, succ_less hkn⟩
          rcases Nat.lt_succ_iff_lt_or_eq.1 hj with h | rfl
          · exact HEQ.out j h
          · rw [HT.out, HSV.out]
        · have HTS := Lib.hid hts
          obtain ⟨rfl, rfl⟩ | ⟨rfl, rfl⟩ : (t = true ∧ s = false) ∨ (t = false ∧ s = true) := by
            revert hts
            cases t <;> cases s <;> simp
          all_goals
            clear hts
            go_wp2_with fail
            refine wp_region_quiet_below (by kernel_rfl) (by kernel_rfl) ?_
            repeat (go_big_quiet_step (fail))
            refine wpQuiet_nil ?_
            intro _ hw'
            obtain ⟨⟨dq, osq⟩, hw''⟩ := hw'
            subst hw''
            have hbx := below_regrown wr dq osq
            clear E0 E1 E2
            generalize grow (redrawn wr dq) osq = w5 at *
            have H5 := Lib.hid (hbelowed HH.out hbx)
            clear hbx HH
            go_wp2_with fail
            go_ret
            refine ⟨ret_b ?_, H5.out.below⟩
            symm
            refine decide_eq_false fun h => HTS.out ?_
            have := HT.out
            rw [h, HSV.out, Option.some.injEq] at this
            exact this.symm
      · obtain rfl : k = l.length := Nat.le_antisymm hk (Nat.le_of_not_lt hkn)
        have HEQ := Lib.hid heq
        have HB := Lib.hid hH.below
        clear heq hH
        go_wp2_with fail
        go_ret
        refine ⟨ret_b ?_, HB.out⟩
        symm
        refine decide_eq_true (List.ext_getElem? fun j => ?_)
        by_cases hj : j < l.length
        · exact HEQ.out j hj
        · rw [List.getElem?_eq_none (Nat.le_of_not_lt hj), List.getElem?_eq_none (by rw [HNE.out]; exact Nat.le_of_not_lt hj)]
  · have t1 := len_ne' hne
    have HNE := Lib.hid hne
    clear hne hl
    go_enter Try.func63, Try.ntmps63
    go_wp2_with fail
    refine HS.out.mono ?_
    rintro e' w1 ⟨rfl, vs, h1⟩
    obtain ⟨As, cs, rfl⟩ := h1.up1.slice
    have c0 := h1.cell 0 rfl
    have H1 := Lib.hid h1
    clear h1 HS
    go_wp2_with fail
    go_ret
    refine ⟨ret_b ?_, H1.out.below⟩
    symm
    exact decide_eq_false fun h => HNE.out (by rw [h])

theorem left_fact {a n : Nat} (h : a ≤ n) (hn : n ≤ 1000000000) : wrap64 ((n : Int) - (a : Int)) = ((n - a : Nat) : Int) ∧ IntKind.i64.wrap ((n : Int) - (a : Int)) = ((n - a : Nat) : Int) ∧ (n : Int) - (a : Int) = ((n - a : Nat) : Int) ∧ IntKind.i64.wrap ((n - a : Nat) : Int) = ((n - a : Nat) : Int) := by
  rw [wrap_i64, wrap_i64]; unfold wrap64; omega

set_option maxHeartbeats 1000000 in
theorem rrleft (W : World) (B : Nat) (w : World) (b : Nat) (l : List Bool) (at_ : Nat) (fl : Bool) (F : List Ent) (hw : HasRR W B w b l at_ fl F) (hat : at_ ≤ l.length) (hl : l.length ≤ 1000000000) :
    Calls Try.prog 62 #[.pointer (some ⟨b, 0, none⟩)] w fun e' w' => e' = .returned (.int .i64 ((l.length - at_ : Nat) : Int)) ∧ Below w.heap.size w w' := by
  obtain ⟨v, hH⟩ := hw
  obtain ⟨A, c, rfl⟩ := hH.up1.slice
  have E0 := cell_regrown (hH.cell 0 rfl)
  have E1 := cell_regrown (hH.cell 1 rfl)
  obtain ⟨d, hd, f1, f2, f3, f4⟩ : ∃ d : Nat, l.length - at_ = d ∧ wrap64 ((l.length : Int) - (at_ : Int)) = (d : Int) ∧ IntKind.i64.wrap ((l.length : Int) - (at_ : Int)) = (d : Int) ∧ (l.length : Int) - (at_ : Int) = (d : Int) ∧ IntKind.i64.wrap (d : Int) = (d : Int) := ⟨_, rfl, left_fact hat hl⟩
  rw [hd]
  clear hH hat hl hd
  go_enter Try.func62, Try.ntmps62
  go_wp2_with fail
  refine wp_region_quiet_below (by kernel_rfl) (by kernel_rfl) ?_
  repeat (go_big_quiet_step (fail))
  refine wpQuiet_nil ?_
  intro _ hw'
  obtain ⟨⟨dq, osq⟩, hw''⟩ := hw'
  subst hw''
  have hbx := below_regrown w dq osq
  clear E0 E1
  generalize grow (redrawn w dq) osq = w5 at *
  go_wp2_with fail
  go_ret
  exact ⟨rfl, hbx⟩

end Go.Proofs.Ytfcncmhcmbghpaa.RRd
