/- The reference's reader of bits: Done. -/
import Derived.Test.YtfcncmhcmbghpaaRRSm
set_option linter.unusedVariables false
set_option linter.unusedSimpArgs false
namespace Go.Proofs.Ytfcncmhcmbghpaa.RRd
open Go.Sort Go.RowKit Go.Proofs.Ytfcncmhcmbghpaa.Mem Go.Proofs.Ytfcncmhcmbghpaa.Bits Go.Proofs.Ytfcncmhcmbghpaa.Wr Go.Proofs.Ytfcncmhcmbghpaa.Num Go.Proofs.Ytfcncmhcmbghpaa.Step Go.Proofs.YtfcncmhcmbghpaaW.PrintWords

theorem i_facts {y n : Nat} (h : y < n) (hn : n ≤ 1000000000) : (0 : Int) ≤ (y : Int) ∧ (y : Int) < (n : Int) ∧ wrap64 ((y : Int) + 1) = (y : Int) + 1 ∧ IntKind.i64.wrap ((y : Int) + 1) = (y : Int) + 1 := by rw [wrap_i64]; unfold wrap64; omega
theorem ge8_facts {d : Nat} (h : d < 8) : decide ((8 : Int) ≤ (d : Int)) = false ∧ ¬ (8 : Int) ≤ (d : Int) := by
  have : ¬ (8 : Int) ≤ (d : Int) := by omega
  exact ⟨decide_eq_false this, this⟩
theorem ge8_facts' {d : Nat} (h : ¬ d < 8) : decide ((8 : Int) ≤ (d : Int)) = true ∧ (8 : Int) ≤ (d : Int) := by
  have : (8 : Int) ≤ (d : Int) := by omega
  exact ⟨decide_eq_true this, this⟩

set_option maxHeartbeats 1000000 in
theorem rrdone (W : World) (B : Nat) (w : World) (b : Nat) (l : List Bool) (at_ : Nat) (fl : Bool) (F : List Ent) (hw : HasRR W B w b l at_ fl F) (hat : at_ ≤ l.length) (hl : l.length ≤ 1000000000) :
    Calls Try.prog 58 #[.pointer (some ⟨b, 0, none⟩)] w fun e' w' => e' = .returned (.bool (!fl && (decide (l.length - at_ < 8) && decide (val (l.drop at_) = 0)))) ∧ Below w.heap.size w w' := by
  have hlf := rrleft W B w b l at_ fl F hw hat hl
  obtain ⟨v, hH⟩ := hw
  obtain ⟨A, c, rfl⟩ := hH.up1.slice
  have c2 := hH.cell 2 rfl
  have HH := Lib.hid hH
  have HL := Lib.hid hl
  have HAT := Lib.hid hat
  cases fl with
  | true =>
    clear hH hlf hl hat
    go_enter Try.func58, Try.ntmps58
    go_wp2_with fail
    go_ret
    exact ⟨rfl, Below.refl _ _⟩
  | false =>
    obtain ⟨d, hd⟩ : ∃ d, l.length - at_ = d := ⟨_, rfl⟩
    rw [hd] at hlf ⊢
    have HD := Lib.hid hd
    have HLF := Lib.hid hlf
    clear hH hlf hl hat hd
    by_cases h8 : d < 8
    · obtain ⟨g1, g2⟩ := ge8_facts h8
      rw [decide_eq_true h8]
      clear h8
      go_enter Try.func58, Try.ntmps58
      go_wp2_with fail
      refine HLF.out.mono ?_
      rintro e' w1 ⟨rfl, hb⟩
      have h1 := hbelowed HH.out hb
      have c1 := h1.cell 1 rfl
      have H1 := Lib.hid h1
      have HB := Lib.hid hb
      clear h1 hb HLF HH c2
      go_wp2_with fail
      clear c1 g1 g2
      go_loopw [3] (fun i wr => ∃ y : Nat, at_ ≤ y ∧ y ≤ l.length ∧ i = .int .i64 y ∧ (∀ j, at_ ≤ j → j < y → l[j]? = some false) ∧ wr = w1) (fun i _ => l.length - (intOf i).toNat)
      case atStart => exact ⟨at_, Nat.le_refl _, HAT.out, rfl, fun j h1 h2 => absurd h1 (Nat.not_le_of_lt h2), rfl⟩
      case round =>
        obtain ⟨y, hy0, hy, rfl, hz, rfl⟩ := hrel
        have HZ := Lib.hid hz
        have HY0 := Lib.hid hy0
        have c0 := H1.out.cell 0 rfl
        clear hz hy0
        by_cases hyn : y < l.length
        · obtain ⟨k0, k1, k2, k3⟩ := i_facts hyn HL.out
          have HK := Lib.hid k2
          obtain ⟨t, ht⟩ : ∃ t, l[y]? = some t := ⟨_, List.getElem?_eq_getElem hyn⟩
          obtain ⟨g, cp, he, _⟩ := H1.out.up1.row (Nat.lt_of_le_of_lt (Nat.zero_le _) hyn)
          simp only [Value.slice.injEq] at he
          obtain ⟨rfl, _, rfl⟩ := he
          have cy := (H1.out.up1.rcell y (by rw [Nat.mul_one]; exact hyn)).trans (bools_at ht)
          have HT := Lib.hid ht
          clear ht k2 k3 hy
          cases t with
          | false =>
            go_wp2_with fail
            try rw [HK.out]
            refine ⟨⟨y + 1, Nat.le_succ_of_le HY0.out, hyn, cast_succ y, fun j h1 h2 => ?_, by first | rfl | trivial⟩, succ_less hyn⟩
            rcases Nat.lt_succ_iff_lt_or_eq.1 h2 with h | rfl
            · exact HZ.out j h1 h
            · exact HT.out
          | true =>
            go_wp2_with fail
            go_ret
            refine ⟨ret_b ?_, HB.out⟩
            have hv : decide (val (l.drop at_) = 0) = false := by
              refine decide_eq_false fun h => ?_
              have := (val_zero _).1 h true (List.mem_of_getElem? (i := y - at_) (by rw [List.getElem?_drop, Nat.add_sub_cancel' HY0.out]; exact HT.out))
              cases this
            rw [hv]
            rfl
        · obtain rfl : y = l.length := Nat.le_antisymm hy (Nat.le_of_not_lt hyn)
          go_wp2_with fail
          go_ret
          refine ⟨ret_b ?_, HB.out⟩
          have hv : decide (val (l.drop at_) = 0) = true := by
            refine decide_eq_true ((val_zero _).2 fun b hb => ?_)
            obtain ⟨j, hj⟩ := List.getElem?_of_mem hb
            rw [List.getElem?_drop] at hj
            have hlt := (List.getElem?_eq_some_iff.1 hj).1
            rw [HZ.out _ (Nat.le_add_right _ _) hlt, Option.some.injEq] at hj
            exact hj.symm
          rw [hv]
          rfl
    · obtain ⟨g1, g2⟩ := ge8_facts' h8
      rw [decide_eq_false h8]
      clear h8
      go_enter Try.func58, Try.ntmps58
      go_wp2_with fail
      refine HLF.out.mono ?_
      rintro e' w1 ⟨rfl, hb⟩
      have HB := Lib.hid hb
      clear hb HLF
      go_wp2_with fail
      go_ret
      exact ⟨rfl, HB.out⟩

end Go.Proofs.Ytfcncmhcmbghpaa.RRd
