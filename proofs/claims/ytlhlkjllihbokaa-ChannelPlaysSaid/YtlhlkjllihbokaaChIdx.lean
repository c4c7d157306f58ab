/- slices.IndexFunc with the closure of Channel.Take on a row of its own. -/
import Derived.Test.YtlhlkjllihbokaaChClo
set_option linter.unusedVariables false
set_option linter.unusedSimpArgs false
namespace Go.Proofs.Ytlhlkjllihbokaa.Chan
open Go.Sort Go.RowKit Go.Proofs.Ytlhlkjllihbokaa.Mem Go.Proofs.Ytlhlkjllihbokaa.Open Go.Proofs.Ytlhlkjllihbokaa.Num Go.Proofs.Ytlhlkjllihbokaa.Step Go.Proofs.Ytlhlkjllihbokaa.Ser Go.Proofs.YtlhlkjllihbokaaW.PrintWords

theorem u16s_at (l : List Int) (k : Nat) (h : k < l.length) : (u16s l)[k]? = some (.int .u16 l[k]) := by
  rw [u16s, List.getElem?_map, List.getElem?_eq_getElem h]; rfl
theorem k_facts {k n : Nat} (h : k < n) (hn : n ≤ 1000) : (0 : Int) ≤ (k : Int) ∧ (k : Int) < (n : Int) ∧ wrap64 ((k : Int) + 1) = (k : Int) + 1 ∧ IntKind.i64.wrap ((k : Int) + 1) = (k : Int) + 1 := by rw [wrap_i64]; unfold wrap64; omega
theorem first_next {p : Int → Bool} {l : List Int} {k : Nat} (h : k < l.length) (h1 : ∀ j (hj : j < l.length), j < k → p l[j] = false) (h2 : p l[k] = false) : ∀ j (hj : j < l.length), j < k + 1 → p l[j] = false := by
  intro j hj hjk
  rcases Nat.lt_succ_iff_lt_or_eq.1 hjk with h3 | rfl
  · exact h1 j hj h3
  · exact h2

/-- The pieces that the closure needs. -/
def Clo (W : World) (B : Nat) (w : World) (gw gg : Nat) (wi : Win) (got : List Int) (F : List Ent) : Prop :=
  ∃ vg, Holds W B w (.st gw wi.cells 30 :: .st gg [vg] 27 :: .rw vg 22 1 got.length (u16s got) :: F)
/-- What IndexFunc answers. -/
def IdxPost (W : World) (B : Nat) (gw gg : Nat) (wi : Win) (op : List Int) (F : List Ent) (e' : Ending) (w' : World) : Prop :=
  (∃ (k : Nat) (hk : k < op.length), e' = .returned (.int .i64 (k : Int)) ∧ (∀ j (hj : j < op.length), j < k → hasW wi op[j] = false) ∧ hasW wi op[k] = true ∧ Clo W B w' gw gg wi [op[k]] F) ∨
  (e' = .returned (.int .i64 (-1)) ∧ (∀ j (hj : j < op.length), hasW wi op[j] = false) ∧ Clo W B w' gw gg wi [] F)

set_option maxRecDepth 100000 in
set_option maxHeartbeats 2000000 in
theorem cidx (W : World) (B : Nat) (w : World) (gw gg : Nat) (wi : Win) (op : List Int) (A : Option Addr) (c : Nat) (F : List Ent) (hm0 : 0 ≤ wi.mask) (hm1 : wi.mask < 4294967296) (hl : op.length ≤ 1000)
    (hH : Clo W B w gw gg wi [] (.rw (.slice A op.length c) 22 1 op.length (u16s op) :: F)) :
    Calls Try.prog 53 #[.slice A op.length c, .func (.func 49) #[] #[.pointer (some ⟨gw, 0, none⟩), .pointer (some ⟨gg, 0, none⟩)]] w fun e' w' =>
      IdxPost W B gw gg wi op (.rw (.slice A op.length c) 22 1 op.length (u16s op) :: F) e' w' := by
  have HH := Lib.hid hH
  have HM := Lib.hid (And.intro hm0 hm1)
  have HL := Lib.hid hl
  clear hH hm0 hm1 hl
  go_enter Try.func53, Try.ntmps53
  go_wp2_with fail
  go_loopw [8] (fun i wr => ∃ k : Nat, k ≤ op.length ∧ i = .int .i64 k ∧ Hid (∀ j (hj : j < op.length), j < k → hasW wi op[j] = false) ∧ Hid (Clo W B wr gw gg wi [] (.rw (.slice A op.length c) 22 1 op.length (u16s op) :: F)))
    (fun i _ => op.length - (intOf i).toNat)
  case atStart => exact ⟨0, Nat.zero_le _, rfl, Lib.hid (fun j _ h => absurd h (Nat.not_lt_zero _)), HH⟩
  case round =>
    obtain ⟨k, hk, rfl, HF, HC⟩ := hrel
    clear HH
    by_cases hkn : k < op.length
    · obtain ⟨k0, k1, k2, k3⟩ := k_facts hkn HL.out
      obtain ⟨vg, hH⟩ := HC.out
      obtain ⟨g, cap, he, _⟩ := hH.up3.row (Nat.lt_of_le_of_lt (Nat.zero_le _) hkn)
      simp only [Value.slice.injEq, true_and] at he
      obtain ⟨rfl, rfl⟩ := he
      have e0 := (hH.up3.rcell k (by rw [Nat.mul_one]; exact hkn)).trans (u16s_at op k hkn)
      have hp := cclo W B wr gw gg wi [] vg op[k] _ HM.out.1 HM.out.2 (by decide) hH
      obtain ⟨x, hx⟩ : ∃ x, op[k] = x := ⟨_, rfl⟩
      rw [hx] at e0 hp
      obtain ⟨bb, hbb⟩ : ∃ bb, hasW wi x = bb := ⟨_, rfl⟩
      rw [hbb] at hp
      have HP := Lib.hid hp
      have HX := Lib.hid hx
      have HBB := Lib.hid hbb
      have HKN := Lib.hid hkn
      clear hp hH hx hbb HC
      go_wp2_with fail
      refine HP.out.mono ?_
      rintro e' w1 ⟨rfl, vg1, h1⟩
      cases bb with
      | true =>
        have H1 := Lib.hid h1
        clear h1 HP
        go_wp2_with fail
        go_ret
        refine .inl ⟨k, HKN.out, rfl, HF.out, by rw [HX.out]; exact HBB.out, vg1, ?_⟩
        rw [HX.out]
        exact H1.out
      | false =>
        have H1 := Lib.hid h1
        clear h1 HP
        go_wp2_with fail
        refine ⟨⟨k + 1, HKN.out, by go_num, Lib.hid (first_next HKN.out HF.out (by rw [HX.out]; exact HBB.out)), Lib.hid ⟨vg1, H1.out⟩⟩, by simp [intOf]; omega⟩
    · obtain rfl : k = op.length := by omega
      have HKN := Lib.hid hkn
      have k1 : ¬ (op.length : Int) < (op.length : Int) := by omega
      go_wp2_with fail
      go_ret
      exact .inr ⟨rfl, fun j hj => HF.out j hj hj, HC.out⟩

end Go.Proofs.Ytlhlkjllihbokaa.Chan
