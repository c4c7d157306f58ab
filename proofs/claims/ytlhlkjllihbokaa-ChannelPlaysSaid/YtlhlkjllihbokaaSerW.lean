/- Windows: steps, what came, what is taken; by the program. -/
import Derived.Test.YtlhlkjllihbokaaProg
import Derived.Test.YtlhlkjllihbokaaSerP
import Derived.Test.YtlhlkjllihbokaaStep
import Derived.Test.YtlhlkjllihbokaaOpen
import Derived.Test.YtlhlkjllihbokaaWWords
set_option linter.unusedVariables false
set_option linter.unusedSimpArgs false
namespace Go.Proofs.Ytlhlkjllihbokaa.Ser
open Go.Sort Go.RowKit Go.Proofs.Ytlhlkjllihbokaa.Mem Go.Proofs.Ytlhlkjllihbokaa.Open Go.Proofs.Ytlhlkjllihbokaa.Num Go.Proofs.Ytlhlkjllihbokaa.Step

theorem Holds.belowed {W w w' : World} {B : Nat} {H : List Ent} (h : Holds W B w H) (hb : Below w.heap.size w w') : Holds W B w' H :=
  h.same ⟨hb.os, hb.tape, hb.output, hb.size, fun k hk _ => hb.block k hk⟩

theorem steps_wrap (a b : Int) : IntKind.i64.wrap (IntKind.i16.wrap (IntKind.u16.wrap (b - a))) = steps a b := by
  unfold steps
  simp only [IntKind.wrap, IntKind.bits, IntKind.signed, Bool.true_and, Bool.false_and]
  simp
  split <;> split <;> omega

theorem psteps (w : World) (a b : Int) : Calls Try.prog 13 #[.int .u16 a, .int .u16 b] w fun e' w' => e' = .returned (.int .i64 (steps a b)) ∧ w = w' := by
  go_enter Try.func13, Try.ntmps13
  go_wp2_with fail
  go_ret
  refine ⟨ret_i ?_, rfl⟩
  rw [← wrap_i64]
  exact steps_wrap a b

theorem plater (w : World) (a b : Int) : Calls Try.prog 15 #[.int .u16 a, .int .u16 b] w fun e' w' => e' = .returned (.bool (decide (0 < steps a b))) ∧ w = w' := by
  have h := psteps w a b
  have HH := Lib.hid h
  clear h
  go_enter Try.func15, Try.ntmps15
  go_wp2_with fail
  refine HH.out.mono ?_
  rintro e' w1 ⟨rfl, rfl⟩
  go_wp2_with fail
  go_ret
  exact ⟨rfl, rfl⟩

theorem steps_range (a b : Int) : -32768 ≤ steps a b ∧ steps a b ≤ 32767 := by unfold steps; split <;> omega
theorem i64c (a : Int) (h0 : -32769 ≤ a) (h1 : a ≤ 32768) : IntKind.i64.wrap a = a := by rw [wrap_i64]; unfold wrap64; omega
theorem u64c (a : Int) (h0 : 0 ≤ a) (h1 : a ≤ 32768) : IntKind.u64.wrap a = a := by rw [wrap_u64]; omega

theorem awakeS (w : World) : Calls Try.prog 12 #[] w fun e' w' => e' = .returned (.bool true) ∧ w = w' := by
  have h1 := plater w 65535 0
  have h2 := plater w 0 65535
  rw [show decide (0 < steps 65535 0) = true by decide] at h1
  rw [show decide (0 < steps 0 65535) = false by decide] at h2
  have H1 := Lib.hid h1
  have H2 := Lib.hid h2
  clear h1 h2
  go_enter Try.func12, Try.ntmps12
  go_wp2_with fail
  refine H1.out.mono ?_
  rintro e' w1 ⟨rfl, rfl⟩
  go_wp2_with fail
  refine H2.out.mono ?_
  rintro e' w2 ⟨rfl, rfl⟩
  go_wp2_with fail
  go_ret
  exact ⟨rfl, rfl⟩

theorem wraps_u32 (n : Int) (h₀ : 0 ≤ n) (h₁ : n < 2 ^ 32) : IntKind.u32.wrap n = n := by
  have : (2 : Int) ^ 32 = 4294967296 := by decide
  simp [IntKind.wrap, IntKind.bits, IntKind.signed]; omega
theorem or_u32 (x y : Int) (hx0 : 0 ≤ x) (hx : x < 4294967296) (hy0 : 0 ≤ y) (hy : y < 4294967296) : bits .or .u32 x y = orI x y := by
  obtain ⟨a, rfl⟩ := Int.eq_ofNat_of_zero_le hx0
  obtain ⟨b, rfl⟩ := Int.eq_ofNat_of_zero_le hy0
  have := (bits_nat .u32 32 (by decide) wraps_u32 a b (by omega) (by omega)).2
  rw [this]
  unfold orI
  simp
theorem and_u32 (m : Int) (i : Nat) (h0 : 0 ≤ m) (h1 : m < 4294967296) : (bits .and .u32 (m / 2 ^ i) 1 == 1) = bit m i := by
  obtain ⟨a, rfl⟩ := Int.eq_ofNat_of_zero_le h0
  have hp : (0 : Int) < 2 ^ i := Int.pow_pos (by decide)
  have h2 : 0 ≤ (a : Int) / 2 ^ i := Int.ediv_nonneg h0 (Int.le_of_lt hp)
  have h3 : (a : Int) / 2 ^ i ≤ a := Int.ediv_le_self _ h0
  have h4 := bits_mask .u32 32 (by decide) wraps_u32 1 (by decide) ((a : Int) / 2 ^ i) h2 (by have : (2 : Int) ^ 32 = 4294967296 := by decide
                                                                                              omega)
  have h5 : (2 : Int) ^ 1 - 1 = 1 := by decide
  rw [h5] at h4
  rw [h4]
  unfold bit
  rw [Int.toNat_natCast, Nat.testBit_eq_decide_div_mod_eq]
  have h6 : (a : Int) / 2 ^ i % 2 ^ 1 = ((a / 2 ^ i % 2 : Nat) : Int) := by
    rw [Int.natCast_emod, Int.natCast_ediv, Int.natCast_pow]; rfl
  rw [h6, Bool.eq_iff_iff]
  simp
  omega

def Win.cells (w : Win) : List Value := [.bool w.any, .int .u16 w.last, .int .u32 w.mask]

set_option maxHeartbeats 2000000 in
theorem phas (W : World) (any : Bool) (last mask n : Int) (hm0 : 0 ≤ mask) (hm1 : mask < 4294967296) :
    Calls Try.prog 17 #[.agg #[.bool any, .int .u16 last, .int .u32 mask], .int .u16 n] W fun e' w' => e' = .returned (.bool (hasW ⟨any, last, mask⟩ n)) ∧ Below W.heap.size W w' := by
  have hH := (Holds.start W).alloc [.bool any, .int .u16 last, .int .u32 mask] 30
  have e0 := hH.cell 0 rfl
  have e1 := hH.cell 1 rfl
  have e2 := hH.cell 2 rfl
  have HB := Lib.hid hH.below
  clear hH
  have hs := psteps (W.alloc (.cells #[.bool any, .int .u16 last, .int .u32 mask] 30)) last n
  obtain ⟨hr0, hr1⟩ := steps_range last n
  obtain ⟨d, hd⟩ : ∃ d, steps last n = d := ⟨_, rfl⟩
  have hw : hasW ⟨any, last, mask⟩ n = (any && (decide (d = 0) || (decide (d < 0) && (decide (-32 ≤ d) && bit mask (-d - 1).toNat)))) := by unfold hasW; rw [← hd]
  rw [hw]
  rw [hd] at hs hr0 hr1
  have HS := Lib.hid hs
  clear hs hw hd
  cases any with
  | false =>
    go_enter Try.func17, Try.ntmps17
    go_wp2_with fail
    refine HS.out.mono ?_
    rintro e' w1 ⟨rfl, rfl⟩
    go_wp2_with fail
    go_ret
    exact ⟨rfl, HB.out⟩
  | true =>
    by_cases h0 : d = 0
    · subst h0
      go_enter Try.func17, Try.ntmps17
      go_wp2_with fail
      refine HS.out.mono ?_
      rintro e' w1 ⟨rfl, rfl⟩
      go_wp2_with fail
      go_ret
      exact ⟨rfl, HB.out⟩
    · have t0 : (d == 0) = false := beq_eq_false_iff_ne.2 h0
      by_cases h1 : d < 0 ∧ -32 ≤ d
      · obtain ⟨h1, h2⟩ := h1
        obtain ⟨i, hi⟩ : ∃ i : Nat, -d - 1 = (i : Int) := ⟨(-d - 1).toNat, by omega⟩
        have hi32 : i < 32 := by omega
        have t1 : decide (d < 0) = true := by simpa using h1
        have t2 : decide (-32 ≤ d) = true := by simpa using h2
        have tw1 : IntKind.i64.wrap (-d) = -d := i64c _ (by omega) (by omega)
        have tw2 : IntKind.i64.wrap (i : Int) = (i : Int) := i64c _ (by omega) (by omega)
        have tw3 : IntKind.u64.wrap (i : Int) = (i : Int) := u64c _ (by omega) (by omega)
        have hb := and_u32 mask i hm0 hm1
        have hmin : min i 32 = i := by omega
        have HB2 := Lib.hid hb
        rw [show (decide (d = 0) || (decide (d < 0) && (decide (-32 ≤ d) && bit mask (-d - 1).toNat))) = bit mask i by
          rw [t1, t2, hi, Int.toNat_natCast, decide_eq_false h0]; rfl]
        have h32 : decide (32 ≤ i) = false := by simp; omega
        go_enter Try.func17, Try.ntmps17
        go_wp2_with fail
        refine HS.out.mono ?_
        rintro e' w1 ⟨rfl, rfl⟩
        go_wp2_with fail
        go_ret
        exact ⟨rfl, HB.out⟩
      · rw [show (decide (d = 0) || (decide (d < 0) && (decide (-32 ≤ d) && bit mask (-d - 1).toNat))) = false by
          rw [decide_eq_false h0]
          by_cases h2 : d < 0
          · rw [show decide (-32 ≤ d) = false by simp; omega]; simp
          · rw [decide_eq_false h2]; rfl]
        by_cases h2 : d < 0
        · have t1 : decide (d < 0) = true := by simpa using h2
          have t2 : decide (-32 ≤ d) = false := by simp; omega
          go_enter Try.func17, Try.ntmps17
          go_wp2_with fail
          refine HS.out.mono ?_
          rintro e' w1 ⟨rfl, rfl⟩
          go_wp2_with fail
          go_ret
          exact ⟨rfl, HB.out⟩
        · have t1 : decide (d < 0) = false := by simpa using h2
          go_enter Try.func17, Try.ntmps17
          go_wp2_with fail
          refine HS.out.mono ?_
          rintro e' w1 ⟨rfl, rfl⟩
          go_wp2_with fail
          go_ret
          exact ⟨rfl, HB.out⟩

theorem shl_min (x : Int) (j : Nat) : x * 2 ^ min j 32 % 4294967296 = shl32 x j := by
  unfold shl32
  by_cases h : j ≤ 32
  · rw [Nat.min_eq_left h]
  · rw [Nat.min_eq_right (by omega)]
    have e : (2 : Int) ^ j = 4294967296 * 2 ^ (j - 32) := by
      rw [show (4294967296 : Int) = 2 ^ 32 by decide, ← Int.pow_add, show 32 + (j - 32) = j by omega]
    have e2 : x * 2 ^ j = 4294967296 * (x * 2 ^ (j - 32)) := by rw [e]; simp only [Int.mul_left_comm]
    rw [e2, show (2 : Int) ^ 32 = 4294967296 by decide, Int.mul_comm x, Int.mul_emod_right, Int.mul_emod_right]
theorem one_min (i : Nat) : (2 : Int) ^ min i 32 % 4294967296 = shl32 1 i := by rw [← shl_min, Int.one_mul]
theorem or_shl (x : Int) (j i : Nat) : bits .or .u32 (x * 2 ^ min j 32 % 4294967296) (2 ^ min i 32 % 4294967296) = orI (shl32 x j) (shl32 1 i) := by
  rw [shl_min, one_min]
  exact or_u32 _ _ (shl32_range _ _).1 (shl32_range _ _).2 (shl32_range _ _).1 (shl32_range _ _).2

def Win.val (w : Win) : Value := .agg #[.bool w.any, .int .u16 w.last, .int .u32 w.mask]

set_option maxHeartbeats 2000000 in
theorem ptake (W : World) (any : Bool) (last mask n : Int) (hm0 : 0 ≤ mask) (hm1 : mask < 4294967296) :
    Calls Try.prog 16 #[.agg #[.bool any, .int .u16 last, .int .u32 mask], .int .u16 n] W fun e' w' => e' = .returned (.tuple #[(takeW ⟨any, last, mask⟩ n).1.val, .bool (takeW ⟨any, last, mask⟩ n).2]) ∧ Below W.heap.size W w' := by
  have h0 := (Holds.start W).alloc [.bool any, .int .u16 last, .int .u32 mask] 30
  have hs1 : (W.alloc (.cells #[.bool any, .int .u16 last, .int .u32 mask] 30)).heap.size = W.heap.size + 1 := by simp
  have hH := h0.alloc [.bool false, .int .u16 0, .int .u32 0] 30
  rw [hs1] at hH
  have e0 := hH.up1.cell 0 rfl
  have e1 := hH.up1.cell 1 rfl
  have e2 := hH.up1.cell 2 rfl
  have HX := Lib.hid hH
  have H0 := Lib.hid h0
  have HS1 := Lib.hid hs1
  clear hH h0 hs1
  have hs := fun w => psteps w last n
  obtain ⟨hr0, hr1⟩ := steps_range last n
  obtain ⟨d, hd⟩ : ∃ d, steps last n = d := ⟨_, rfl⟩
  have htw : takeW ⟨any, last, mask⟩ n = if any = false then (⟨true, n, 0⟩, true) else if 0 < d then (⟨true, n, orI (shl32 mask d.toNat) (shl32 1 (d - 1).toNat)⟩, true)
      else if d = 0 ∨ d < -32 ∨ hasW ⟨any, last, mask⟩ n = true then (⟨any, last, mask⟩, false) else (⟨true, last, orI mask (shl32 1 (-d - 1).toNat)⟩, true) := by unfold takeW; rw [← hd]
  rw [htw]
  simp only [hd] at hs
  rw [hd] at hr0 hr1
  have HS := Lib.hid hs
  clear hs htw hd
  cases any with
  | false =>
    rw [if_pos rfl]
    go_enter Try.func16, Try.ntmps16
    go_wp2_with fail
    refine (HS.out _).mono ?_
    rintro e' w1 ⟨rfl, rfl⟩
    go_wp2_with fail
    have hz := H0.out.alloc [.bool true, .int .u16 n, .int .u32 0] 30
    rw [HS1.out] at hz
    refine bodyPost_ret (Go.Proofs.YtlhlkjllihbokaaW.PrintWords.results_ct rfl _ _ _ _ _ _ _ rfl hz.head.2 Try.underlying30 rfl (by kernel_rfl)) rfl ?_
    exact ⟨rfl, hz.below⟩
  | true =>
    rw [if_neg (by decide)]
    by_cases h1 : 0 < d
    · rw [if_pos h1]
      obtain ⟨j, hj⟩ : ∃ j : Nat, d = (j : Int) := ⟨d.toNat, by omega⟩
      obtain ⟨i, hi⟩ : ∃ i : Nat, (j : Int) - 1 = (i : Int) := ⟨(d - 1).toNat, by omega⟩
      subst hj
      have tw1 : IntKind.u64.wrap (j : Int) = (j : Int) := u64c _ (by omega) (by omega)
      have tw2 : IntKind.i64.wrap (i : Int) = (i : Int) := i64c _ (by omega) (by omega)
      have tw3 : IntKind.u64.wrap (i : Int) = (i : Int) := u64c _ (by omega) (by omega)
      rw [hi, Int.toNat_natCast, Int.toNat_natCast]
      have hor := or_shl mask j i
      obtain ⟨M, hM⟩ : ∃ M, orI (shl32 mask j) (shl32 1 i) = M := ⟨_, rfl⟩
      rw [hM] at hor
      rw [hM]
      clear hM
      go_enter Try.func16, Try.ntmps16
      go_wp2_with fail
      refine (HS.out _).mono ?_
      rintro e' w1 ⟨rfl, rfl⟩
      go_wp2_with fail
      have hz := H0.out.alloc [.bool true, .int .u16 n, .int .u32 M] 30
      rw [HS1.out] at hz
      refine bodyPost_ret (Go.Proofs.YtlhlkjllihbokaaW.PrintWords.results_ct rfl _ _ _ _ _ _ _ rfl hz.head.2 Try.underlying30 rfl (by kernel_rfl)) rfl ?_
      exact ⟨rfl, hz.below⟩
    · rw [if_neg h1]
      have ht1 : decide (0 < d) = false := by simpa using h1
      by_cases h0 : d = 0
      · rw [if_pos (.inl h0)]
        subst h0
        go_enter Try.func16, Try.ntmps16
        go_wp2_with fail
        refine (HS.out _).mono ?_
        rintro e' w1 ⟨rfl, rfl⟩
        go_wp2_with fail
        have hz := H0.out.alloc [.bool true, .int .u16 last, .int .u32 mask] 30
        rw [HS1.out] at hz
        refine bodyPost_ret (Go.Proofs.YtlhlkjllihbokaaW.PrintWords.results_ct rfl _ _ _ _ _ _ _ rfl hz.head.2 Try.underlying30 rfl (by kernel_rfl)) rfl ?_
        exact ⟨rfl, hz.below⟩
      · have t0 : (d == 0) = false := beq_eq_false_iff_ne.2 h0
        by_cases h2 : d < -32
        · rw [if_pos (.inr (.inl h2))]
          have t2 : decide (d < -32) = true := by simpa using h2
          go_enter Try.func16, Try.ntmps16
          go_wp2_with fail
          refine (HS.out _).mono ?_
          rintro e' w1 ⟨rfl, rfl⟩
          go_wp2_with fail
          have hz := H0.out.alloc [.bool true, .int .u16 last, .int .u32 mask] 30
          rw [HS1.out] at hz
          refine bodyPost_ret (Go.Proofs.YtlhlkjllihbokaaW.PrintWords.results_ct rfl _ _ _ _ _ _ _ rfl hz.head.2 Try.underlying30 rfl (by kernel_rfl)) rfl ?_
          exact ⟨rfl, hz.below⟩
        · have t2 : decide (d < -32) = false := by simpa using h2
          have hph := fun w => phas w true last mask n hm0 hm1
          obtain ⟨hb, hhb⟩ : ∃ hb, hasW ⟨true, last, mask⟩ n = hb := ⟨_, rfl⟩
          rw [hhb]
          simp only [hhb] at hph
          have HPH := Lib.hid hph
          clear hph hhb
          cases hb with
          | true =>
            rw [if_pos (.inr (.inr rfl))]
            go_enter Try.func16, Try.ntmps16
            go_wp2_with fail
            refine (HS.out _).mono ?_
            rintro e' w1 ⟨rfl, rfl⟩
            go_wp2_with fail
            refine (HPH.out _).mono ?_
            rintro e' w2 ⟨rfl, h3⟩
            have h4 := Holds.belowed HX.out h3
            have g0 := h4.up1.cell 0 rfl
            have g1 := h4.up1.cell 1 rfl
            have g2 := h4.up1.cell 2 rfl
            have h5 := h4.set 0 (.bool true)
            have h6 := h5.set 1 (.int .u16 last)
            have h7 := h6.set 2 (.int .u32 mask)
            simp only [List.set] at h7
            have r0 := h4.cell 0 rfl
            have f0 := h4.frozen 0
            have r1 := h5.cell 1 rfl
            have f1 := h5.frozen 1
            have r2 := h6.cell 2 rfl
            have f2 := h6.frozen 2
            have H7 := Lib.hid h7
            clear h4 h3 h5 h6 h7
            go_wp2_with fail
            have hz := H7.out
            refine bodyPost_ret (Go.Proofs.YtlhlkjllihbokaaW.PrintWords.results_ct rfl _ _ _ _ _ _ _ rfl hz.head.2 Try.underlying30 rfl (by kernel_rfl)) rfl ?_
            exact ⟨rfl, hz.below⟩
          | false =>
            rw [if_neg (by simp [h0, h2])]
            obtain ⟨i, hi⟩ : ∃ i : Nat, -d - 1 = (i : Int) := ⟨(-d - 1).toNat, by omega⟩
            have tw1 : IntKind.i64.wrap (-d) = -d := i64c _ (by omega) (by omega)
            have tw2 : IntKind.i64.wrap (i : Int) = (i : Int) := i64c _ (by omega) (by omega)
            have tw3 : IntKind.u64.wrap (i : Int) = (i : Int) := u64c _ (by omega) (by omega)
            rw [hi, Int.toNat_natCast]
            have hi32 : i < 32 := by omega
            have hmin : min i 32 = i := by omega
            have hor : bits .or .u32 mask (2 ^ min i 32 % 4294967296) = orI mask (shl32 1 i) := by
              rw [one_min]; exact or_u32 mask (shl32 1 i) hm0 hm1 (shl32_range _ _).1 (shl32_range _ _).2
            have hor3 : bits .or .u32 mask (2 ^ i % 4294967296) = orI mask (shl32 1 i) := by rw [← hor, hmin]
            obtain ⟨M, hM⟩ : ∃ M, orI mask (shl32 1 i) = M := ⟨_, rfl⟩
            rw [hM] at hor3 hor
            rw [hM]
            clear hM hmin
            go_enter Try.func16, Try.ntmps16
            go_wp2_with fail
            refine (HS.out _).mono ?_
            rintro e' w1 ⟨rfl, rfl⟩
            go_wp2_with fail
            refine (HPH.out _).mono ?_
            rintro e' w2 ⟨rfl, h3⟩
            have h4 := Holds.belowed HX.out h3
            have g0 := h4.up1.cell 0 rfl
            have g1 := h4.up1.cell 1 rfl
            have g2 := h4.up1.cell 2 rfl
            have g3 := h4.up1.frozen 2
            have h5 := h4.up1.set 2 (.int .u32 M)
            have k0 := h5.cell 0 rfl
            have k1 := h5.cell 1 rfl
            have k2 := h5.cell 2 rfl
            have h6 := h5.up1.set 0 (.bool true)
            have h7 := h6.set 1 (.int .u16 last)
            have h8 := h7.set 2 (.int .u32 M)
            simp only [List.set] at h8
            have r0 := h5.up1.cell 0 rfl
            have f0 := h5.up1.frozen 0
            have r1 := h6.cell 1 rfl
            have f1 := h6.frozen 1
            have r2 := h7.cell 2 rfl
            have f2 := h7.frozen 2
            have H8 := Lib.hid h8
            clear h4 h3 h5 h6 h7 h8
            go_wp2_with fail
            have hz := H8.out
            refine bodyPost_ret (Go.Proofs.YtlhlkjllihbokaaW.PrintWords.results_ct rfl _ _ _ _ _ _ _ rfl hz.head.2 Try.underlying30 rfl (by kernel_rfl)) rfl ?_
            exact ⟨rfl, hz.below⟩

end Go.Proofs.Ytlhlkjllihbokaa.Ser
