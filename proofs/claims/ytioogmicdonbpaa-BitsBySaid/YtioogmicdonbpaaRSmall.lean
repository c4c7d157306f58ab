/- The reader of bits: Small. -/
import Derived.Test.YtioogmicdonbpaaDone
import Derived.Test.YtioogmicdonbpaaReadS
set_option linter.unusedVariables false
set_option linter.unusedSimpArgs false
namespace Go.Proofs.Ytioogmicdonbpaa.Wr
open Go.RowKit Go.Proofs.Ytioogmicdonbpaa.Mem Go.Proofs.Ytioogmicdonbpaa.Bits Go.Proofs.Ytioogmicdonbpaa.Num Go.Proofs.YtioogmicdonbpaaW.PrintWords

/-- What Small gives, and where the reader stands behind it. -/
def smallGives (bs : List Int) (at_ : Nat) : Int × Nat × Bool :=
  match readS 0 ((bitsB bs).drop at_) with
  | some (u, k) => (unzig u, at_ + 8 * k, false)
  | none => (0, at_, true)

theorem gives_none {bs : List Int} {at_ : Nat} (h : readS 0 ((bitsB bs).drop at_) = none) : smallGives bs at_ = (0, at_, true) := by unfold smallGives; rw [h]
theorem gives_some {bs : List Int} {at_ u k : Nat} (h : readS 0 ((bitsB bs).drop at_) = some (u, k)) : smallGives bs at_ = (unzig u, at_ + 8 * k, false) := by unfold smallGives; rw [h]

set_option maxHeartbeats 2000000 in
set_option maxRecDepth 100000 in
theorem rsmallr (W : World) (B : Nat) (w : World) (b : Nat) (e : TypeId) (bs : List Int) (at_ : Nat) (F : List Ent) (hw : HasR W B w b e bs at_ false F) (hb : bytesOk bs) (hat : at_ ≤ 8 * bs.length) :
    Calls Try.prog 33 #[.pointer (some ⟨b, 0, none⟩)] w fun e' w' => e' = .returned (.int .i64 (smallGives bs at_).1) ∧ HasR W B w' b e bs (smallGives bs at_).2.1 (smallGives bs at_).2.2 F := by
  obtain ⟨v, hH⟩ := hw
  have c1 := hH.cell 1 (v := .int .i64 (at_ : Int)) rfl
  have H0 := Lib.hid hH
  have HB := Lib.hid hb
  have hl := hb.1
  clear hH hb
  go_enter Try.func33, Try.ntmps33
  go_wp2_with fail
  go_loopw [4, 5] (fun us iv wr => ∃ (i acc : Nat), i ≤ 9 ∧ iv = .int .u64 i ∧ us = .int .u64 acc ∧ acc < 128 ^ i ∧ at_ + 8 * i ≤ 8 * bs.length ∧ HasR W B wr b e bs (at_ + 8 * i) false F ∧
      readS 0 ((bitsB bs).drop at_) = (readS i ((bitsB bs).drop (at_ + 8 * i))).map (fun p => (acc + 128 ^ i * p.1, p.2 + i))) (fun _ iv _ => 10 - (intOf iv).toNat)
  case atStart => exact ⟨0, 0, by omega, rfl, rfl, by decide, by omega, ⟨v, H0.out⟩, by cases readS 0 ((bitsB bs).drop at_) <;> simp⟩
  case round =>
    obtain ⟨i, acc, hi, rfl, rfl, hacc, hle, hW, hrd⟩ := hrel
    have HRD := Lib.hid hrd
    have HACC := Lib.hid hacc
    clear hrd c1 H0 hacc
    by_cases hmore : at_ + 8 * i + 8 ≤ 8 * bs.length
    · have hcr := byte_range ((bitsB bs).drop (at_ + 8 * i))
      have HT := Lib.hid (rtake W B wr b e bs (at_ + 8 * i) F 8 hW HB.out (by decide) (by decide) (by omega))
      rw [show (8 : Int).toNat = 8 from rfl] at HT
      obtain ⟨c, hc⟩ : ∃ c : Nat, val (((bitsB bs).drop (at_ + 8 * i)).take 8) = (c : Int) := ⟨_, (Int.toNat_of_nonneg hcr.1).symm⟩
      rw [hc] at HT hcr
      have hc256 : c < 256 := by omega
      have HC := Lib.hid hc
      clear hc hcr hW
      go_wp2_with fail
      refine HT.out.mono ?_
      rintro e' w1 ⟨rfl, v, h1⟩
      have d1 := h1.cell 1 (v := .int .i64 ((at_ + 8 * i + 8 : Nat) : Int)) rfl
      have d2 := h1.cell 2 (v := .bool false) rfl
      have f1 := h1.frozen 1
      have f2 := h1.frozen 2
      have H1 := Lib.hid h1
      have FIN : Hid (HasR W B ((w1.setCell ⟨b, 1, none⟩ (.int .i64 (at_ : Int))).setCell ⟨b, 2, none⟩ (.bool true)) b e bs at_ true F) := ⟨v, (h1.set 1 (.int .i64 (at_ : Int))).set 2 (.bool true)⟩
      clear h1 HT
      have h8l : 8 ≤ ((bitsB bs).drop (at_ + 8 * i)).length := by rw [List.length_drop, bitsB_length]; omega
      have hcd : c / 2 < 128 := by omega
      have badFin : (i = 9 ∧ c / 2 ≠ 1) ∨ (0 < i ∧ c = 0) ∨ (i = 9 ∧ c % 2 = 1) → smallGives bs at_ = (0, at_, true) := fun hb => gives_none (by rw [HRD.out, readS_bad h8l HC.out hb]; rfl)
      have BAD := Lib.hid badFin
      have evenFin : ¬ ((i = 9 ∧ c / 2 ≠ 1) ∨ (0 < i ∧ c = 0) ∨ (i = 9 ∧ c % 2 = 1)) → c % 2 = 0 → smallGives bs at_ = (unzig (acc + 128 ^ i * (c / 2)), at_ + 8 * i + 8, false) := fun hb he => by
        rw [gives_some (u := acc + 128 ^ i * (c / 2)) (k := 1 + i) (by rw [HRD.out, readS_even h8l HC.out hb he]; rfl), show at_ + 8 * (1 + i) = at_ + 8 * i + 8 by omega]
      have EVEN := Lib.hid evenFin
      have hor : (i = 9 → c / 2 ≤ 1) → bits .or .u64 (acc : Int) (IntKind.u64.wrap ((c : Int) / 2 * 2 ^ (7 * i))) = ((acc + 128 ^ i * (c / 2) : Nat) : Int) := fun h => by
        have h2 := or_small (acc : Int) (c / 2) i (by omega) (by exact_mod_cast HACC.out) hcd hi h
        rw [show (c : Int) / 2 = ((c / 2 : Nat) : Int) by omega, h2]
        push_cast
        rfl
      have HOR := Lib.hid hor
      have hub : (i = 9 → c / 2 ≤ 1) → acc + 128 ^ i * (c / 2) < 18446744073709551616 := fun h => acc_bound acc (c / 2) i hi HACC.out hcd h
      have HUB := Lib.hid hub
      clear badFin evenFin hor hub h8l
      by_cases h9 : i = 9
      · by_cases hc2 : c / 2 = 1
        · by_cases hc1 : c = 3
          · have BF := Lib.hid (BAD.out (Or.inr (Or.inr ⟨h9, by omega⟩)))
            clear BAD EVEN HOR HUB
            subst h9
            subst hc1
            go_wp2_with fail
            go_ret
            rw [BF.out]
            exact ⟨rfl, FIN.out⟩
          · have hc3 : c = 2 := by omega
            have BF := Lib.hid (EVEN.out (by omega) (by omega))
            have HO := HOR.out (by omega)
            have HU := HUB.out (by omega)
            clear BAD EVEN HOR HUB
            subst h9
            subst hc3
            rw [show IntKind.u64.wrap (((2 : Nat) : Int) / 2 * 2 ^ (7 * 9)) = 9223372036854775808 from by decide] at HO
            have HO2 := Lib.hid HO
            clear HO hc1 hc2
            go_wp2_with fail
            go_ret
            rw [BF.out]
            refine ⟨ret_i ?_, v, H1.out⟩
            rw [HO2.out, fin_val _ HU]
        · have BF := Lib.hid (BAD.out (Or.inl ⟨h9, hc2⟩))
          clear BAD EVEN HOR HUB
          subst h9
          have t1 : ((c : Int) / 2 != 1) = true := by simp; omega
          go_wp2_with fail
          go_ret
          rw [BF.out]
          exact ⟨rfl, FIN.out⟩
      · have t9 : ((i : Int) == 9) = false := by simp; omega
        by_cases h0 : 0 < i ∧ c = 0
        · have BF := Lib.hid (BAD.out (Or.inr (Or.inl h0)))
          clear BAD EVEN HOR HUB
          obtain ⟨h0, rfl⟩ := h0
          have t0 : decide (0 < (i : Int)) = true := by simp; omega
          go_wp2_with fail
          go_ret
          rw [BF.out]
          exact ⟨rfl, FIN.out⟩
        · have ta : bits .and .u64 (c : Int) 1 = (c : Int) % 2 := u64_and1 _ (by omega) (by omega)
          have HO := Lib.hid (HOR.out (by omega))
          have HU := Lib.hid (HUB.out (by omega))
          clear HOR HUB BAD
          by_cases hodd : c % 2 = 1
          · have tc : ((c : Int) % 2 == 0) = false := by simp; omega
            have tz : ((c : Int) == 0) = false := by simp; omega
            have HN : Hid (readS i ((bitsB bs).drop (at_ + 8 * i)) = _) := readS_odd (by rw [List.length_drop, bitsB_length]; omega) HC.out (by omega) hodd
            clear EVEN
            go_wp2_with fail
            all_goals
              refine ⟨⟨i + 1, acc + 128 ^ i * (c / 2), by omega, by go_num, by rw [HO.out], ?_, by omega, ⟨v, H1.out⟩, ?_⟩, by simp [intOf]; omega⟩
              · have := HACC.out
                rw [Nat.pow_succ]
                have h2 : 128 ^ i * (c / 2) ≤ 128 ^ i * 127 := Nat.mul_le_mul_left _ (by omega)
                omega
              · rw [HRD.out, HN.out, List.drop_drop, show at_ + 8 * i + 8 = at_ + 8 * (i + 1) by omega, Option.map_map]
                congr 1
                funext p
                simp only [Function.comp, Prod.mk.injEq]
                refine ⟨?_, by omega⟩
                rw [Nat.pow_succ, Nat.mul_add, Nat.mul_assoc]
                omega
          · have tc : ((c : Int) % 2 == 0) = true := by simp; omega
            have BF := Lib.hid (EVEN.out (by omega) (by omega))
            clear EVEN
            by_cases hi0 : i = 0
            · have ti : decide (0 < (i : Int)) = false := by simp; omega
              clear hi0
              go_wp2_with fail
              all_goals
                go_ret
                rw [BF.out]
                refine ⟨ret_i ?_, v, H1.out⟩
                rw [HO.out, fin_val _ HU.out]
            · have tz : ((c : Int) == 0) = false := by simp; omega
              go_wp2_with fail
              all_goals
                go_ret
                rw [BF.out]
                refine ⟨ret_i ?_, v, H1.out⟩
                rw [HO.out, fin_val _ HU.out]
    · have BF : Hid (smallGives bs at_ = (0, at_, true)) := gives_none (by rw [HRD.out, readS_short (by rw [List.length_drop, bitsB_length]; omega)]; rfl)
      have HT := Lib.hid (rtake_not W B wr b e bs (at_ + 8 * i) false F 8 hW HB.out hle (by omega))
      clear hW
      go_wp2_with fail
      refine HT.out.mono ?_
      rintro e' w1 ⟨rfl, v, h1⟩
      have d1 := h1.cell 1 (v := .int .i64 ((at_ + 8 * i : Nat) : Int)) rfl
      have d2 := h1.cell 2 (v := .bool true) rfl
      have f1 := h1.frozen 1
      have f2 := h1.frozen 2
      have FIN : Hid (HasR W B ((w1.setCell ⟨b, 1, none⟩ (.int .i64 (at_ : Int))).setCell ⟨b, 2, none⟩ (.bool true)) b e bs at_ true F) := ⟨v, (h1.set 1 (.int .i64 (at_ : Int))).set 2 (.bool true)⟩
      clear h1 HT
      go_wp2_with fail
      go_ret
      rw [BF.out]
      exact ⟨rfl, FIN.out⟩

end Go.Proofs.Ytioogmicdonbpaa.Wr
