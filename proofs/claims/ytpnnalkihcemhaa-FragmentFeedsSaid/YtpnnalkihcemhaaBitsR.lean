/- The bits of bytes, as they are read; plain. -/
import Derived.Test.YtpnnalkihcemhaaSmallP
set_option linter.unusedVariables false
set_option linter.unusedSimpArgs false
namespace Go.Proofs.Ytpnnalkihcemhaa.Bits
open Go.RowKit

/-- The bits of bytes. -/
def bitsB (bs : List Int) : List Bool := bs.flatMap fun c => bitsOf c 8

theorem bitsB_length (bs : List Int) : (bitsB bs).length = 8 * bs.length := by
  induction bs with
  | nil => simp [bitsB]
  | cons c bs ih =>
    have : bitsB (c :: bs) = bitsOf c 8 ++ bitsB bs := by simp [bitsB]
    rw [this, List.length_append, bitsOf_length, ih, List.length_cons]
    omega

theorem bitsB_get (bs : List Int) : ∀ (i : Nat) (c : Int), bs[i / 8]? = some c → (bitsB bs)[i]? = some (decide (c / 2 ^ (i % 8) % 2 = 1)) := by
  induction bs with
  | nil => intro i c h; simp at h
  | cons d bs ih =>
    intro i c h
    have e : bitsB (d :: bs) = bitsOf d 8 ++ bitsB bs := by simp [bitsB]
    rw [e]
    by_cases hi : i < 8
    · rw [List.getElem?_append_left (by rw [bitsOf_length]; exact hi)]
      rw [show i / 8 = 0 by omega] at h
      simp only [List.getElem?_cons_zero, Option.some.injEq] at h
      subst h
      rw [show i % 8 = i by omega]
      simp [bitsOf, hi]
    · rw [List.getElem?_append_right (by rw [bitsOf_length]; omega), bitsOf_length]
      have h2 : bs[(i - 8) / 8]? = some c := by
        rw [show i / 8 = (i - 8) / 8 + 1 by omega, List.getElem?_cons_succ] at h
        exact h
      rw [ih (i - 8) c h2, show (i - 8) % 8 = i % 8 by omega]

theorem u8_and1 (y : Int) (h0 : 0 ≤ y) (h1 : y < 256) : bits .and .u8 y 1 = y % 2 :=
  bits_mask .u8 8 (by decide) wraps_u8 1 (by decide) y h0 (by simpa using h1)

/-- A bit is joined to a number below it. -/
theorem or_bit64 (x c : Int) (j k : Nat) (hx0 : 0 ≤ x) (hx : x < 2 ^ k) (hk : k < 64) (hj : j < 8) (hc0 : 0 ≤ c) (hc : c < 256) :
    bits .or .u64 x (bits .and .u8 (c / 2 ^ min j 8) 1 * 2 ^ min k 64 % 18446744073709551616) = x + 2 ^ k * b01 (decide (c / 2 ^ j % 2 = 1)) := by
  rw [show min k 64 = k by omega, show min j 8 = j by omega]
  have hb := shr_bound c j hc0
  rw [u8_and1 _ hb.1 (by omega)]
  have hpk : (2 : Int) ^ k ≤ 9223372036854775808 := by
    have : (2 : Int) ^ k ≤ 2 ^ 63 := by exact_mod_cast Nat.pow_le_pow_right (by decide) (show k ≤ 63 by omega)
    simpa using this
  have hp0 : (0 : Int) < 2 ^ k := Int.pow_pos (by decide)
  have h01 : c / 2 ^ j % 2 = 0 ∨ c / 2 ^ j % 2 = 1 := by omega
  rcases h01 with h | h
  · rw [h]
    simp only [Int.zero_emod, Int.zero_mul]
    rw [u64_or_comm, bits_join .u64 64 (by decide) wraps_u64 k 0 x (by decide) (by simp) (by decide) hx0 hx (by omega)]
    simp [b01]
  · rw [h]
    have e : (1 : Int) * 2 ^ k % 18446744073709551616 = 2 ^ k := by
      rw [Int.one_mul]
      exact Int.emod_eq_of_lt (by omega) (by omega)
    rw [e, u64_or_comm, bits_join .u64 64 (by decide) wraps_u64 k (2 ^ k) x (by omega) (by simp) (by omega) hx0 hx (by omega)]
    simp [b01, Int.add_comm]

theorem or_bit64' (x c : Int) (j k : Nat) (hx0 : 0 ≤ x) (hx : x < 2 ^ k) (hk : k < 64) (hj : j < 8) (hc0 : 0 ≤ c) (hc : c < 256) :
    bits .or .u64 x (IntKind.u64.wrap (IntKind.u64.wrap (bits .and .u8 (c / 2 ^ j) 1) * 2 ^ k)) = x + 2 ^ k * b01 (decide (c / 2 ^ j % 2 = 1)) := by
  have h := or_bit64 x c j k hx0 hx hk hj hc0 hc
  rw [show min k 64 = k by omega, show min j 8 = j by omega] at h
  have hb := shr_bound c j hc0
  have e : IntKind.u64.wrap (bits .and .u8 (c / 2 ^ j) 1) = bits .and .u8 (c / 2 ^ j) 1 := by
    rw [u8_and1 _ hb.1 (by omega), Num.wrap_u64]; omega
  rw [e, Num.wrap_u64]
  exact h

theorem val_step (l : List Bool) (k : Nat) (b : Bool) (h : l[k]? = some b) : val (l.take (k + 1)) = val (l.take k) + 2 ^ k * b01 b := by
  obtain ⟨hk, rfl⟩ := List.getElem?_eq_some_iff.1 h
  exact val_take_succ l k hk

theorem val_take_range (l : List Bool) (k : Nat) : 0 ≤ val (l.take k) ∧ val (l.take k) < 2 ^ k := by
  have h := val_range (l.take k)
  have h2 : (l.take k).length ≤ k := by simp; omega
  have : (2 : Int) ^ (l.take k).length ≤ 2 ^ k := by exact_mod_cast Nat.pow_le_pow_right (by decide) h2
  omega

/-- A number's bits are its value. -/
theorem val_bitsOf (x : Int) (n : Nat) (h0 : 0 ≤ x) : val (bitsOf x n) = x % 2 ^ n := by
  induction n with
  | zero => simp [bitsOf, val]
  | succ n ih =>
    rw [bitsOf_succ, val_append, bitsOf_length, ih]
    have hp0 : (0 : Int) < 2 ^ n := Int.pow_pos (by decide)
    have e : val [decide (x / 2 ^ n % 2 = 1)] = x / 2 ^ n % 2 := by
      simp only [val, b01]
      by_cases h : x / 2 ^ n % 2 = 1
      · simp [h]
      · simp [h]; omega
    rw [e]
    have h1 := Int.emod_add_mul_ediv x (2 ^ n)
    have h2 := Int.emod_add_mul_ediv (x / 2 ^ n) 2
    have h3 : x / 2 ^ n / 2 = x / 2 ^ (n + 1) := by rw [Int.pow_succ, Int.ediv_ediv_of_nonneg (Int.le_of_lt hp0)]
    have h4 := Int.emod_add_mul_ediv x (2 ^ (n + 1))
    rw [h3] at h2
    have h5 : (2 : Int) ^ (n + 1) * (x / 2 ^ (n + 1)) = 2 ^ n * (2 * (x / 2 ^ (n + 1))) := by rw [Int.pow_succ, Int.mul_assoc]
    have h6 : (2 : Int) ^ n * (x / 2 ^ n) = 2 ^ n * (x / 2 ^ n % 2) + 2 ^ n * (2 * (x / 2 ^ (n + 1))) := by
      rw [← Int.mul_add, h2]
    omega

theorem bitsOf_drop (c : Int) (n j : Nat) : (bitsOf c (j + n)).drop j = bitsOf (c / 2 ^ j) n := by
  apply List.ext_getElem?
  intro i
  rw [List.getElem?_drop]
  simp only [bitsOf, List.getElem?_map]
  by_cases hi : i < n
  · rw [List.getElem?_range (show j + i < j + n by omega), List.getElem?_range hi]
    simp only [Option.map_some]
    rw [Int.pow_add, Int.ediv_ediv_of_nonneg (Int.le_of_lt (Int.pow_pos (by decide)))]
  · rw [List.getElem?_eq_none (by simp; omega), List.getElem?_eq_none (by simp; omega)]
    rfl

/-- What is left of the last byte, as a number. -/
theorem val_rest (bs : List Int) (at_ : Nat) (c : Int) (hc0 : 0 ≤ c) (hc : c < 256) (h1 : at_ < 8 * bs.length) (h2 : 8 * bs.length < at_ + 8) (hl : bs[bs.length - 1]? = some c) : val ((bitsB bs).drop at_) = c / 2 ^ (at_ % 8) := by
  have hne : bs ≠ [] := by intro h; subst h; simp at h1
  have hbs : bs = bs.dropLast ++ [c] := by
    rw [List.getElem?_eq_getElem (by omega), Option.some.injEq] at hl
    rw [← hl, ← List.getLast_eq_getElem hne, List.dropLast_concat_getLast hne]
  have hlen : bs.length = bs.dropLast.length + 1 := by rw [List.length_dropLast]; omega
  have hd : (bitsB bs).drop at_ = (bitsOf c 8).drop (at_ % 8) := by
    rw [hbs]
    have : bitsB (bs.dropLast ++ [c]) = bitsB bs.dropLast ++ bitsOf c 8 := by simp [bitsB]
    rw [this, List.drop_append, List.drop_eq_nil_of_le (by rw [bitsB_length]; omega), bitsB_length, List.nil_append]
    congr 1
    omega
  have hj : at_ % 8 < 8 := by omega
  rw [hd, show bitsOf c 8 = bitsOf c (at_ % 8 + (8 - at_ % 8)) by rw [show at_ % 8 + (8 - at_ % 8) = 8 by omega], bitsOf_drop, val_bitsOf _ _ (shr_bound c _ hc0).1]
  apply Int.emod_eq_of_lt (shr_bound c _ hc0).1
  apply Int.ediv_lt_of_lt_mul (Int.pow_pos (by decide))
  rw [← Int.pow_add, show 8 - at_ % 8 + at_ % 8 = 8 by omega]
  simpa using hc

theorem val_zero (l : List Bool) : val l = 0 ↔ ∀ b, b ∈ l → b = false := by
  induction l with
  | nil => simp [val]
  | cons b l ih =>
    have h := val_range l
    simp only [val, List.mem_cons, forall_eq_or_imp]
    cases b
    · simp only [b01, Bool.false_eq_true, if_false, true_and]
      rw [← ih]; omega
    · simp only [b01, if_true, Bool.true_eq_false, false_and, iff_false]
      omega

end Go.Proofs.Ytpnnalkihcemhaa.Bits
