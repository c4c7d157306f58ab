/- A small number's bits; plain. -/
import Derived.Test.YtpnnalkihcemhaaBits
set_option linter.unusedVariables false
set_option linter.unusedSimpArgs false
namespace Go.Proofs.Ytpnnalkihcemhaa.Bits
open Go.RowKit

/-- The sign at the end. -/
def zig (x : Int) : Int := if x < 0 then -2 * x - 1 else 2 * x

theorem zig_range (x : Int) (h0 : -9223372036854775808 ≤ x) (h1 : x ≤ 9223372036854775807) : 0 ≤ zig x ∧ zig x < 18446744073709551616 := by
  unfold zig
  split <;> omega

def smallB (u : Nat) : List Bool := if u < 128 then bitsOf (2 * (u : Int)) 8 else bitsOf (1 + 2 * ((u % 128 : Nat) : Int)) 8 ++ smallB (u / 128)
termination_by u
decreasing_by omega

theorem smallB_lt {u : Nat} (h : u < 128) : smallB u = bitsOf (2 * (u : Int)) 8 := by rw [smallB, if_pos h]
theorem smallB_ge {u : Nat} (h : ¬ u < 128) : smallB u = bitsOf (1 + 2 * ((u % 128 : Nat) : Int)) 8 ++ smallB (u / 128) := by rw [smallB, if_neg h]

theorem smallB_len (u : Nat) : (smallB u).length % 8 = 0 ∧ 8 ≤ (smallB u).length := by
  induction u using Nat.strongRecOn with
  | _ u ih =>
    by_cases h : u < 128
    · rw [smallB_lt h, bitsOf_length]; omega
    · rw [smallB_ge h, List.length_append, bitsOf_length]
      have := ih (u / 128) (by omega)
      omega

theorem smallB_mono : ∀ (u v : Nat), u ≤ v → (smallB u).length ≤ (smallB v).length := by
  intro u
  induction u using Nat.strongRecOn with
  | _ u ih =>
    intro v huv
    by_cases h : u < 128
    · rw [smallB_lt h, bitsOf_length]; exact (smallB_len v).2
    · rw [smallB_ge h, smallB_ge (show ¬ v < 128 by omega), List.length_append, List.length_append, bitsOf_length, bitsOf_length]
      have := ih (u / 128) (by omega) (v / 128) (by omega)
      omega

theorem smallB_upto (k : Nat) : ∀ (u : Nat), u < 128 ^ (k + 1) → (smallB u).length ≤ 8 * (k + 1) := by
  induction k with
  | zero => intro u hu; rw [smallB_lt (by simpa using hu), bitsOf_length]; omega
  | succ k ih =>
    intro u hu
    by_cases h : u < 128
    · rw [smallB_lt h, bitsOf_length]; omega
    · rw [smallB_ge h, List.length_append, bitsOf_length]
      have := ih (u / 128) (by rw [Nat.pow_succ] at hu; omega)
      omega

theorem smallB_80 (u : Nat) (h : u < 18446744073709551616) : (smallB u).length ≤ 80 :=
  smallB_upto 9 u (by
    have : 128 ^ (9 + 1) = 1180591620717411303424 := by decide
    omega)

theorem u64_xor_zero (a : Int) (h0 : 0 ≤ a) (h1 : a < 18446744073709551616) : bits .xor .u64 a 0 = a := by
  obtain ⟨n, rfl⟩ := Int.eq_ofNat_of_zero_le h0
  have hn : n < 2 ^ 64 := by omega
  show IntKind.u64.wrap (((BitVec.ofInt 64 (n : Int)) ^^^ (BitVec.ofInt 64 0)).toNat : Int) = (n : Int)
  have : (BitVec.ofInt 64 0) = 0#64 := by decide
  rw [this, BitVec.xor_zero, BitVec.ofInt_natCast, BitVec.toNat_ofNat, Nat.mod_eq_of_lt hn, Num.wrap_u64]
  omega

theorem u64_xor_ones (a : Int) (h0 : 0 ≤ a) (h1 : a < 18446744073709551616) : bits .xor .u64 a 18446744073709551615 = 18446744073709551615 - a := by
  obtain ⟨n, rfl⟩ := Int.eq_ofNat_of_zero_le h0
  have hn : n < 2 ^ 64 := by omega
  show IntKind.u64.wrap (((BitVec.ofInt 64 (n : Int)) ^^^ (BitVec.ofInt 64 18446744073709551615)).toNat : Int) = 18446744073709551615 - (n : Int)
  have : (BitVec.ofInt 64 18446744073709551615) = BitVec.allOnes 64 := by decide
  rw [this, BitVec.xor_allOnes, BitVec.ofInt_natCast, BitVec.toNat_not, BitVec.toNat_ofNat, Nat.mod_eq_of_lt hn, Num.wrap_u64]
  omega

theorem u64_and127 (u : Int) (h0 : 0 ≤ u) (h1 : u < 18446744073709551616) : bits .and .u64 u 127 = u % 128 :=
  bits_mask .u64 64 (by decide) wraps_u64 7 (by decide) u h0 (by simpa using h1)

theorem u64_or_comm (x y : Int) : bits .or .u64 x y = bits .or .u64 y x := by simp only [bits, BitVec.or_comm]

theorem u64_or1 (y : Int) (h0 : 0 ≤ y) (h1 : y < 9223372036854775808) : bits .or .u64 1 (y * 2) = 1 + 2 * y := by
  rw [u64_or_comm, bits_join .u64 64 (by decide) wraps_u64 1 (y * 2) 1 (by omega) (by omega) (by omega) (by decide) (by decide) (by decide)]
  omega

theorem zig_bits (x : Int) (h0 : -9223372036854775808 ≤ x) (h1 : x ≤ 9223372036854775807) :
    bits .xor .u64 (IntKind.u64.wrap (IntKind.u64.wrap x * 2)) (IntKind.u64.wrap (x / 9223372036854775808)) = zig x := by
  rw [Num.wrap_u64, Num.wrap_u64, Num.wrap_u64]
  unfold zig
  split
  · rw [show x / 9223372036854775808 % 18446744073709551616 = 18446744073709551615 by omega, u64_xor_ones _ (by omega) (by omega)]
    omega
  · rw [show x / 9223372036854775808 % 18446744073709551616 = 0 by omega, u64_xor_zero _ (by omega) (by omega)]
    omega

theorem bitsOf_cons (b : Bool) (y : Int) (n : Nat) : bitsOf (b01 b + 2 * y) (n + 1) = b :: bitsOf y n := by
  apply List.ext_getElem?
  intro j
  cases j with
  | zero =>
    simp only [bitsOf, List.getElem?_map, List.getElem?_range (show 0 < n + 1 by omega), Option.map_some, List.getElem?_cons_zero, Int.pow_zero, Int.ediv_one]
    congr 1
    cases b <;> simp [b01] <;> omega
  | succ j =>
    rw [List.getElem?_cons_succ]
    simp only [bitsOf, List.getElem?_map]
    by_cases hj : j < n
    · rw [List.getElem?_range (show j + 1 < n + 1 by omega), List.getElem?_range hj]
      simp only [Option.map_some]
      have : (b01 b + 2 * y) / 2 ^ (j + 1) = y / 2 ^ j := by
        rw [Int.pow_succ, Int.mul_comm (2 ^ j) 2, ← Int.ediv_ediv_of_nonneg (by decide)]
        congr 1
        cases b <;> simp [b01] <;> omega
      rw [this]
    · rw [List.getElem?_eq_none (by simp; omega), List.getElem?_eq_none (by simp; omega)]
      rfl

theorem join1 (y : Int) : bitsOf 1 1 ++ bitsOf y 7 = bitsOf (1 + 2 * y) 8 := (bitsOf_cons true y 7).symm
theorem join0 (y : Int) : bitsOf 0 1 ++ bitsOf y 7 = bitsOf (2 * y) 8 := by
  have := (bitsOf_cons false y 7).symm
  simpa [b01, bitsOf] using this

theorem val_take_succ (l : List Bool) (t : Nat) (h : t < l.length) : val (l.take (t + 1)) = val (l.take t) + 2 ^ t * b01 l[t] := by
  rw [List.take_succ_eq_append_getElem h, val_append]
  simp [val]
  have : min t l.length = t := by omega
  rw [this]

theorem pack_get (l : List Bool) (j : Nat) (h : j < nby l) : (pack l)[j]? = some (val ((l.drop (8 * j)).take 8)) := by
  simp [pack, List.getElem?_range h]

theorem pack_take_succ (l : List Bool) (j : Nat) (h : j < nby l) : (pack l).take (j + 1) = (pack l).take j ++ [val ((l.drop (8 * j)).take 8)] := by
  have := pack_get l j h
  have hj : j < (pack l).length := by rw [pack_length]; exact h
  rw [List.take_succ_eq_append_getElem hj]
  rw [List.getElem?_eq_getElem hj, Option.some.injEq] at this
  rw [this]

end Go.Proofs.Ytpnnalkihcemhaa.Bits
