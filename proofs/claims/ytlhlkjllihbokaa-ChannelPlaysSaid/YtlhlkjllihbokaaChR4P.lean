/- The reference's window behind a number is the program's; plain. -/
import Derived.Test.YtlhlkjllihbokaaChR4
set_option linter.unusedVariables false
set_option linter.unusedSimpArgs false
namespace Go.Proofs.Ytlhlkjllihbokaa.R4
open Go.RowKit Go.Proofs.Ytlhlkjllihbokaa.Ser

def maskN (f : Nat → Bool) : Nat → Nat
  | 0 => 0
  | k + 1 => maskN f k + (if f k then 2 ^ k else 0)
theorem maskN_lt (f : Nat → Bool) (k : Nat) : maskN f k < 2 ^ k := by
  induction k with
  | zero => exact Nat.one_pos
  | succ k ih => unfold maskN; rw [Nat.pow_succ]; split <;> omega
theorem maskN_bit (f : Nat → Bool) (k i : Nat) : (maskN f k).testBit i = (decide (i < k) && f i) := by
  induction k with
  | zero => simp [maskN]
  | succ k ih =>
    unfold maskN
    have hlt := maskN_lt f k
    cases hk : f k with
    | false =>
      simp only [Bool.false_eq_true, if_false, Nat.add_zero]
      rw [ih]
      by_cases h : i = k
      · subst h; rw [hk]; simp
      · have : decide (i < k) = decide (i < k + 1) := by
          by_cases h2 : i < k
          · rw [decide_eq_true h2, decide_eq_true (by omega)]
          · rw [decide_eq_false h2, decide_eq_false (by omega)]
        rw [this]
    | true =>
      simp only [if_true]
      rw [Nat.add_comm]
      by_cases h : i = k
      · subst h
        rw [Nat.testBit_two_pow_add_eq, ih, hk]
        simp
      · by_cases h2 : i < k
        · rw [Nat.testBit_two_pow_add_gt h2, ih, decide_eq_true h2, decide_eq_true (by omega)]
        · have : 2 ^ k + maskN f k < 2 ^ i := by
            have : 2 ^ (k + 1) ≤ 2 ^ i := Nat.pow_le_pow_right (by decide) (by omega)
            rw [Nat.pow_succ] at this
            omega
          rw [Nat.testBit_lt_two_pow this, decide_eq_false (by omega)]; rfl

theorem eq_of_bits {a b : Int} (ha0 : 0 ≤ a) (ha : a < 4294967296) (hb0 : 0 ≤ b) (hb : b < 4294967296) (h : ∀ i, i < 32 → bit a i = bit b i) : a = b := by
  obtain ⟨A, rfl⟩ := Int.eq_ofNat_of_zero_le ha0
  obtain ⟨B, rfl⟩ := Int.eq_ofNat_of_zero_le hb0
  have : A = B := by
    refine Nat.eq_of_testBit_eq fun i => ?_
    by_cases hi : i < 32
    · have := h i hi
      unfold bit at this
      rw [Int.toNat_natCast, Int.toNat_natCast] at this
      exact this
    · have h32 : (4294967296 : Nat) ≤ 2 ^ i := by
        have : 2 ^ 32 ≤ 2 ^ i := Nat.pow_le_pow_right (by decide) (by omega)
        exact this
      rw [Nat.testBit_lt_two_pow (by omega), Nat.testBit_lt_two_pow (by omega)]
  rw [this]

def backI (ol : Int) (i : Nat) : Int := (ol - ((i : Int) + 1) + 65536) % 65536
def farB (last x : Int) : Bool := decide (0 < steps last x) || decide (steps last x < -32)
def fk (last mask n ol : Int) (i : Nat) : Bool := (backI ol i == n) || (!farB last (backI ol i) && hasW ⟨true, last, mask⟩ (backI ol i))
def outLast (last n : Int) : Int := if 0 < steps last n then n else last

theorem steps_back {last : Int} (d : Int) (hd : -32768 ≤ d) (hd2 : d < 32768) (x : Int) (hx : (x - last - d) % 65536 = 0) : steps last x = d := by
  unfold steps
  split <;> omega
theorem steps_mod {last n : Int} : (n - last - steps last n) % 65536 = 0 := by
  unfold steps
  split <;> omega
theorem steps_range (last n : Int) : -32768 ≤ steps last n ∧ steps last n < 32768 := by unfold steps; split <;> omega

theorem has_is {last mask x : Int} (d : Int) (h : steps last x = d) : hasW ⟨true, last, mask⟩ x = (decide (d = 0) || (decide (d < 0) && (decide (-32 ≤ d) && bit mask (-d - 1).toNat))) := by
  unfold hasW; simp only [h]; rfl

theorem take_ref {last mask n : Int} (h0 : 0 ≤ last) (h1 : last ≤ 65535) (g0 : 0 ≤ n) (g1 : n ≤ 65535) (hm0 : 0 ≤ mask) (hm1 : mask < 4294967296) :
    takeW ⟨true, last, mask⟩ n = if (decide (steps last n < -32) || hasW ⟨true, last, mask⟩ n) = true then (⟨true, last, mask⟩, false) else (⟨true, outLast last n, (maskN (fk last mask n (outLast last n)) 32 : Nat)⟩, true) := by
  obtain ⟨d, hd⟩ : ∃ d, steps last n = d := ⟨_, rfl⟩
  have hmod : (n - last - d) % 65536 = 0 := by rw [← hd]; exact steps_mod
  have hr : -32768 ≤ d ∧ d < 32768 := by rw [← hd]; exact steps_range _ _
  have hh := has_is (mask := mask) d hd
  have hN : ∀ f : Nat → Bool, (0 : Int) ≤ (maskN f 32 : Nat) ∧ ((maskN f 32 : Nat) : Int) < 4294967296 := fun f => by
    have := maskN_lt f 32
    omega
  have hNb : ∀ (f : Nat → Bool) (i : Nat), i < 32 → bit ((maskN f 32 : Nat) : Int) i = f i := fun f i hi => by
    unfold bit
    rw [Int.toNat_natCast, maskN_bit, decide_eq_true hi, Bool.true_and]
  unfold takeW
  rw [if_neg (show ¬ (true = false) by decide)]
  simp only [hd]
  by_cases hp : 0 < d
  · rw [if_pos hp]
    have e1 : hasW ⟨true, last, mask⟩ n = false := by
      rw [hh, decide_eq_false (by omega), decide_eq_false (by omega)]; rfl
    rw [e1, decide_eq_false (by omega), if_neg (by decide)]
    have hol : outLast last n = n := by unfold outLast; rw [hd, if_pos hp]
    rw [hol]
    have ho := orI_range (shl32 mask d.toNat) (shl32 1 (d - 1).toNat) (shl32_range _ _).2 (shl32_range _ _).2
    have : orI (shl32 mask d.toNat) (shl32 1 (d - 1).toNat) = (maskN (fk last mask n n) 32 : Nat) := by
      refine eq_of_bits ho.1 ho.2 (hN _).1 (hN _).2 fun i hi => ?_
      rw [hNb _ i hi, bit_or, bit_shl _ _ _ hm0 hi, bit_shl _ _ _ (by decide) hi, bit_one]
      have hx : steps last (backI n i) = d - ((i : Int) + 1) := steps_back _ (by omega) (by omega) _ (by unfold backI; omega)
      unfold fk
      have hxn : (backI n i == n) = false := beq_eq_false_iff_ne.2 (by unfold backI; omega)
      rw [hxn, has_is _ hx]
      unfold farB
      rw [hx]
      by_cases c1 : d.toNat ≤ i
      · have t1 : decide (0 < d - ((i : Int) + 1)) = false := decide_eq_false (by omega)
        have t2 : decide (d - ((i : Int) + 1) < -32) = false := decide_eq_false (by omega)
        have t3 : decide (d - ((i : Int) + 1) = 0) = false := decide_eq_false (by omega)
        have t4 : decide (d - ((i : Int) + 1) < 0) = true := decide_eq_true (by omega)
        have t5 : decide (-32 ≤ d - ((i : Int) + 1)) = true := decide_eq_true (by omega)
        have t6 : (-(d - ((i : Int) + 1)) - 1).toNat = i - d.toNat := by omega
        have t7 : decide ((d - 1).toNat ≤ i) = true := decide_eq_true (by omega)
        have t8 : decide (i - (d - 1).toNat = 0) = false := decide_eq_false (by omega)
        rw [t1, t2, t3, t4, t5, t6, t7, t8, decide_eq_true c1]
        simp
      · by_cases c2 : (i : Int) + 1 = d
        · have t1 : decide (0 < d - ((i : Int) + 1)) = false := decide_eq_false (by omega)
          have t2 : decide (d - ((i : Int) + 1) < -32) = false := decide_eq_false (by omega)
          have t3 : decide (d - ((i : Int) + 1) = 0) = true := decide_eq_true (by omega)
          have t7 : decide ((d - 1).toNat ≤ i) = true := decide_eq_true (by omega)
          have t8 : decide (i - (d - 1).toNat = 0) = true := decide_eq_true (by omega)
          rw [t1, t2, t3, t7, t8, decide_eq_false c1]
          simp
        · have t1 : decide (0 < d - ((i : Int) + 1)) = true := decide_eq_true (by omega)
          have t7 : decide ((d - 1).toNat ≤ i) = false := decide_eq_false (by omega)
          rw [t1, t7, decide_eq_false c1]
          simp
    rw [this]
  · rw [if_neg hp]
    have hol : outLast last n = last := by unfold outLast; rw [hd, if_neg hp]
    rw [hol]
    by_cases hc : d = 0 ∨ d < -32 ∨ hasW ⟨true, last, mask⟩ n = true
    · rw [if_pos hc, if_pos]
      rcases hc with h | h | h
      · rw [hh, decide_eq_true h]; simp
      · rw [decide_eq_true h]; rfl
      · rw [h]; simp
    · have hne : ¬ d = 0 := fun h => hc (.inl h)
      have hge : ¬ d < -32 := fun h => hc (.inr (.inl h))
      have hno : hasW ⟨true, last, mask⟩ n = false := by
        cases hb : hasW ⟨true, last, mask⟩ n with
        | false => rfl
        | true => exact absurd (.inr (.inr hb)) hc
      rw [if_neg hc, hno, decide_eq_false hge, if_neg (by decide)]
      have ho := orI_range mask (shl32 1 (-d - 1).toNat) hm1 (shl32_range _ _).2
      have : orI mask (shl32 1 (-d - 1).toNat) = (maskN (fk last mask n last) 32 : Nat) := by
        refine eq_of_bits ho.1 ho.2 (hN _).1 (hN _).2 fun i hi => ?_
        rw [hNb _ i hi, bit_or, bit_shl _ _ _ (by decide) hi, bit_one]
        have hx : steps last (backI last i) = -((i : Int) + 1) := steps_back _ (by omega) (by omega) _ (by unfold backI; omega)
        unfold fk
        rw [has_is _ hx]
        unfold farB
        rw [hx]
        have t1 : decide (0 < -((i : Int) + 1)) = false := decide_eq_false (by omega)
        have t2 : decide (-((i : Int) + 1) < -32) = false := decide_eq_false (by omega)
        have t3 : decide (-((i : Int) + 1) = 0) = false := decide_eq_false (by omega)
        have t4 : decide (-((i : Int) + 1) < 0) = true := decide_eq_true (by omega)
        have t5 : decide (-32 ≤ -((i : Int) + 1)) = true := decide_eq_true (by omega)
        have t6 : (-(-((i : Int) + 1)) - 1).toNat = i := by omega
        rw [t1, t2, t3, t4, t5, t6]
        by_cases c : (i : Int) + 1 = -d
        · have t7 : (backI last i == n) = true := beq_iff_eq.2 (by unfold backI; omega)
          have t8 : decide ((-d - 1).toNat ≤ i) = true := decide_eq_true (by omega)
          have t9 : decide (i - (-d - 1).toNat = 0) = true := decide_eq_true (by omega)
          rw [t7, t8, t9]; simp
        · have t7 : (backI last i == n) = false := beq_eq_false_iff_ne.2 (by unfold backI; omega)
          have t8 : (decide ((-d - 1).toNat ≤ i) && decide (i - (-d - 1).toNat = 0)) = false := by
            by_cases h2 : (-d - 1).toNat ≤ i
            · rw [decide_eq_false (by omega : ¬ i - (-d - 1).toNat = 0)]; simp
            · rw [decide_eq_false h2]; rfl
          rw [t7, t8]; simp
      rw [this]
theorem take_ref0 {last mask n : Int} : takeW ⟨false, last, mask⟩ n = (⟨true, n, 0⟩, true) := rfl

end Go.Proofs.Ytlhlkjllihbokaa.R4
