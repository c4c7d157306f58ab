/- The reference's steps, bits and window; by the program. -/
import Derived.Test.YtlhlkjllihbokaaSerW
set_option linter.unusedVariables false
set_option linter.unusedSimpArgs false
namespace Go.Proofs.Ytlhlkjllihbokaa.R4
open Go.Sort Go.RowKit Go.Proofs.Ytlhlkjllihbokaa.Mem Go.Proofs.Ytlhlkjllihbokaa.Open Go.Proofs.Ytlhlkjllihbokaa.Num Go.Proofs.Ytlhlkjllihbokaa.Step Go.Proofs.Ytlhlkjllihbokaa.Ser Go.Proofs.YtlhlkjllihbokaaW.PrintWords

theorem rsteps (w : World) (a b : Int) (ha : 0 ≤ a) (ha1 : a ≤ 65535) (hb : 0 ≤ b) (hb1 : b ≤ 65535) : Calls Try.prog 14 #[.int .u16 a, .int .u16 b] w fun e w' => e = .returned (.int .i64 (steps a b)) ∧ w = w' := by
  go_enter Try.func14, Try.ntmps14
  go_wp2
  all_goals
    go_ret
    exact ⟨ret_i (by unfold steps; split <;> omega), rfl⟩

theorem half_facts {M j : Nat} (hM : M < 4294967296) : ∃ q q2 : Nat, M / 2 ^ j = q ∧ M / 2 ^ (j + 1) = q2 ∧ (q : Int) / 2 = (q2 : Int) ∧ (0 : Int) ≤ (q : Int) ∧ (q : Int).tdiv 2 = (q2 : Int) ∧ IntKind.u32.wrap (q2 : Int) = (q2 : Int) := by
  have h2 : M / 2 ^ (j + 1) = M / 2 ^ j / 2 := by rw [Nat.pow_succ, ← Nat.div_div_eq_div_mul]
  have h3 : M / 2 ^ j ≤ M := Nat.div_le_self _ _
  rw [h2]
  generalize M / 2 ^ j = q at *
  refine ⟨q, q / 2, rfl, rfl, by omega, by omega, ?_, ?_⟩
  · rw [Int.tdiv_eq_ediv_of_nonneg (by omega)]; omega
  · rw [wrap_u32]; omega
theorem bit_of (M j : Nat) : (((M / 2 ^ j : Nat) : Int) % 2 == 1) = bit (M : Int) j := by
  unfold bit
  rw [Int.toNat_natCast, Nat.testBit_eq_decide_div_mod_eq]
  have : ((M / 2 ^ j : Nat) : Int) % 2 = ((M / 2 ^ j % 2 : Nat) : Int) := by omega
  rw [this]
  by_cases h : M / 2 ^ j % 2 = 1
  · rw [h]; rfl
  · rw [decide_eq_false h]
    exact beq_eq_false_iff_ne.2 (by omega)

set_option maxHeartbeats 1000000 in
theorem rbit (w : World) (m : Int) (k : Nat) (hm0 : 0 ≤ m) (hm1 : m < 4294967296) (hk1 : 1 ≤ k) (hk2 : k ≤ 32) : Calls Try.prog 54 #[.int .u32 m, .int .i64 (k : Int)] w fun e w' => e = .returned (.bool (bit m (k - 1))) ∧ w = w' := by
  obtain ⟨M, rfl⟩ := Int.eq_ofNat_of_zero_le hm0
  have hM : M < 4294967296 := by omega
  have HM := Lib.hid hM
  have HK := Lib.hid (And.intro hk1 hk2)
  clear hm0 hm1 hM hk1 hk2
  go_enter Try.func54, Try.ntmps54
  go_wp2
  go_loop [0, 5] (fun mv iv => ∃ j : Nat, j + 1 ≤ k ∧ iv = .int .i64 ((j : Int) + 1) ∧ mv = .int .u32 ((M / 2 ^ j : Nat) : Int)) (fun _ iv => k - (intOf iv).toNat)
  case atStart => exact ⟨0, HK.out.1, rfl, by simp⟩
  case round =>
    obtain ⟨j, hj, rfl, rfl⟩ := hrel
    obtain ⟨q, q2, hq, hq2, f1, f2, f3, f4⟩ := half_facts (j := j) HM.out
    have hbit := bit_of M j
    rw [hq] at hbit
    rw [hq]
    have HQ := Lib.hid (And.intro hq hq2)
    have HB := Lib.hid hbit
    have HJ := Lib.hid hj
    clear hq hq2 hbit hj
    by_cases hjk : j + 1 < k
    · have j1 : (j : Int) + 1 < (k : Int) := by omega
      have j2 : wrap64 ((j : Int) + 1 + 1) = (j : Int) + 1 + 1 := by unfold wrap64; have := HK.out.2; omega
      have HJK := Lib.hid hjk
      clear hjk
      go_wp2
      rw [j2]
      refine ⟨⟨j + 1, HJK.out, by go_num, ?_⟩, ?_⟩
      · rw [HQ.out.2]
      · have := HJK.out; simp [intOf]; omega
    · have j1 : ¬ (j : Int) + 1 < (k : Int) := by omega
      have hjk2 : k - 1 = j := by have := HJ.out; omega
      have HJK := Lib.hid hjk2
      clear hjk hjk2
      go_wp2
      go_ret
      refine ⟨?_, rfl⟩
      rw [HJK.out, ← HB.out]
      rfl

theorem has_at {any : Bool} {last mask n : Int} {j : Nat} (hj : j < 32) (h0 : 0 ≤ last) (h1 : last ≤ 65535) (hn : n = (last - ((j : Int) + 1) + 65536) % 65536) : hasW ⟨true, last, mask⟩ n = bit mask j := by
  have e : steps last n = -((j : Int) + 1) := by subst hn; unfold steps; split <;> omega
  unfold hasW
  simp only [e]
  have e1 : decide (-((j : Int) + 1) = 0) = false := decide_eq_false (by omega)
  have e2 : decide (-((j : Int) + 1) < 0) = true := decide_eq_true (by omega)
  have e3 : decide ((-32 : Int) ≤ -((j : Int) + 1)) = true := decide_eq_true (by omega)
  have e4 : (-(-((j : Int) + 1)) - 1).toNat = j := by omega
  rw [e1, e2, e3, e4]
  simp
theorem has_none {last mask n : Int} (h0 : 0 ≤ last) (h1 : last ≤ 65535) (g0 : 0 ≤ n) (g1 : n ≤ 65535) (h : ∀ j : Nat, j < 32 → n ≠ (last - ((j : Int) + 1) + 65536) % 65536) : hasW ⟨true, last, mask⟩ n = (n == last) := by
  unfold hasW
  simp only
  by_cases hn : n = last
  · subst hn
    have : steps n n = 0 := by unfold steps; split <;> omega
    rw [this]; simp
  · have e1 : decide (steps last n = 0) = false := decide_eq_false (by unfold steps; split <;> omega)
    have e0 : (n == last) = false := beq_eq_false_iff_ne.2 hn
    rw [e1, e0]
    by_cases h2 : -32 ≤ steps last n ∧ steps last n < 0
    · exfalso
      have := h (-(steps last n) - 1).toNat (by omega)
      apply this
      unfold steps at h2 ⊢
      revert h2
      split <;> intro h2 <;> omega
    · have e2 : (decide (steps last n < 0) && (decide (-32 ≤ steps last n) && bit mask (-(steps last n) - 1).toNat)) = false := by
        by_cases h3 : steps last n < 0
        · rw [decide_eq_true h3, decide_eq_false (by omega)]; rfl
        · rw [decide_eq_false h3]; rfl
      rw [e2]; rfl

theorem x_facts {last : Int} {j : Nat} (hj : j < 32) (h0 : 0 ≤ last) (h1 : last ≤ 65535) : ∃ s x : Int, last - ((j : Int) + 1) = s ∧ IntKind.i64.wrap s = s ∧ IntKind.i64.wrap (s + 65536) = s + 65536 ∧ (s + 65536) % 65536 = x ∧ (s + 65536).tmod 65536 = x ∧ 0 ≤ x ∧ x ≤ 65535 ∧ IntKind.i64.wrap x = x ∧ 0 ≤ s + 65536 ∧ -100 ≤ s ∧ s ≤ 65535 := by
  refine ⟨_, _, rfl, ?_, ?_, rfl, ?_, ?_⟩
  · rw [wrap_i64]; unfold wrap64; omega
  · rw [wrap_i64]; unfold wrap64; omega
  · rw [Int.tmod_eq_emod_of_nonneg (by omega)]
  · rw [wrap_i64]; unfold wrap64; omega
theorem j_facts {j : Nat} (hj : j < 32) : (j : Int) + 1 ≤ 32 ∧ IntKind.i64.wrap ((j : Int) + 1 + 1) = (j : Int) + 1 + 1 ∧ wrap64 ((j : Int) + 1 + 1) = (j : Int) + 1 + 1 := by rw [wrap_i64]; unfold wrap64; omega
theorem u16_facts {n : Int} (h0 : 0 ≤ n) (h1 : n ≤ 65535) : IntKind.i64.wrap n = n ∧ IntKind.u16.wrap n = n := by rw [wrap_i64, wrap_u16]; unfold wrap64; omega
theorem down33 {j : Nat} (h : j < 32) : 33 - (intOf (Value.int .i64 ((j : Int) + 1 + 1))).toNat < 33 - (intOf (Value.int .i64 ((j : Int) + 1))).toNat := by simp [intOf]; omega

set_option maxHeartbeats 1000000 in
theorem rhas (W : World) (any : Bool) (last mask n : Int) (h0 : 0 ≤ last) (h1 : last ≤ 65535) (g0 : 0 ≤ n) (g1 : n ≤ 65535) (hm0 : 0 ≤ mask) (hm1 : mask < 4294967296) :
    Calls Try.prog 51 #[.agg #[.bool any, .int .u16 last, .int .u32 mask], .int .u16 n] W fun e' w' => e' = .returned (.bool (hasW ⟨any, last, mask⟩ n)) ∧ Below W.heap.size W w' := by
  have hH := (Holds.start W).alloc [.bool any, .int .u16 last, .int .u32 mask] 80
  have e0 := hH.cell 0 (v := .bool any) rfl
  have e1 := hH.cell 1 (v := .int .u16 last) rfl
  have e2 := hH.cell 2 (v := .int .u32 mask) rfl
  have hbel := hH.below
  have HH := Lib.hid hH
  have HM := Lib.hid (And.intro hm0 hm1)
  clear hH hm0 hm1
  cases any with
  | false =>
    go_enter Try.func51, Try.ntmps51
    go_wp2_with fail
    go_ret
    exact ⟨rfl, hbel⟩
  | true =>
    go_enter Try.func51, Try.ntmps51
    go_wp2_with fail
    generalize W.alloc (.cells #[.bool true, .int .u16 last, .int .u32 mask] 80) = w1 at *
    go_loop [5] (fun iv => ∃ j : Nat, Hid (j ≤ 32) ∧ iv = .int .i64 ((j : Int) + 1) ∧ Hid (∀ i : Nat, i < j → n ≠ (last - ((i : Int) + 1) + 65536) % 65536)) (fun iv => 33 - (intOf iv).toNat)
    case atStart => exact ⟨0, Lib.hid (by decide), rfl, Lib.hid (fun i h => absurd h (Nat.not_lt_zero _))⟩
    case round =>
      obtain ⟨j, HJ, rfl, HN⟩ := hrel
      by_cases hj : j < 32
      · obtain ⟨s, x, hs, f1, f2, f3, f4, f5, f6, f7, f8, f9, f10⟩ := x_facts hj h0 h1
        obtain ⟨j1, j2, j3⟩ := j_facts hj
        obtain ⟨n1, n2⟩ := u16_facts g0 g1
        obtain ⟨l1, l2⟩ := u16_facts h0 h1
        have hx : (last - ((j : Int) + 1) + 65536) % 65536 = x := by rw [hs]; exact f3
        have HX := Lib.hid hx
        have HJJ := Lib.hid hj
        clear hx hj
        by_cases hnx : n = x
        · have hb := rbit w1 mask (j + 1) HM.out.1 HM.out.2 (Nat.le_add_left 1 j) HJJ.out
          have hat := has_at (any := true) (mask := mask) HJJ.out h0 h1 (hnx.trans HX.out.symm)
          have HAT := Lib.hid hat
          have tx : (n == x) = true := by rw [hnx]; exact beq_self_eq_true x
          clear hat hnx
          rw [show ((j + 1 : Nat) : Int) = (j : Int) + 1 from rfl, Nat.add_sub_cancel] at hb
          have HB := Lib.hid hb
          go_wp2_with fail
          refine HB.out.mono ?_
          rintro e' w2 ⟨rfl, rfl⟩
          go_wp2_with fail
          go_ret
          exact ⟨by rw [HAT.out]; rfl, hbel⟩
        · have tx : (n == x) = false := beq_eq_false_iff_ne.2 hnx
          have hnn : Hid (∀ i : Nat, i < j + 1 → n ≠ (last - ((i : Int) + 1) + 65536) % 65536) := by
            intro i hi
            rcases Nat.lt_succ_iff_lt_or_eq.1 hi with h | rfl
            · exact HN.out i h
            · rw [HX.out]; exact hnx
          clear hnx
          go_wp2_with fail
          exact ⟨⟨j + 1, Lib.hid HJJ.out, by go_num, hnn⟩, down33 HJJ.out⟩
      · obtain rfl : j = 32 := Nat.le_antisymm HJ.out (Nat.le_of_not_lt hj)
        have hn := has_none (mask := mask) h0 h1 g0 g1 HN.out
        have HNN := Lib.hid hn
        clear hn hj HN
        go_wp2_with fail
        go_ret
        exact ⟨by rw [HNN.out]; rfl, hbel⟩

end Go.Proofs.Ytlhlkjllihbokaa.R4
