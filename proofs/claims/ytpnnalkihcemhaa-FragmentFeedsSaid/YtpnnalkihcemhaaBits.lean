/- Bits as a list, and the bytes that hold them; plain. -/
import Derived.Test.YtpnnalkihcemhaaNum
import Derived.Laws.Entries
import Derived.Laws.BitsLemmas
set_option linter.unusedVariables false
set_option linter.unusedSimpArgs false
namespace Go.Proofs.Ytpnnalkihcemhaa.Bits
open Go.RowKit

def b01 (b : Bool) : Int := if b then 1 else 0

/-- The value of a list of bits, the first one the least. -/
def val : List Bool → Int
  | [] => 0
  | b :: l => b01 b + 2 * val l

/-- The n least bits of x. -/
def bitsOf (x : Int) (n : Nat) : List Bool := (List.range n).map fun i => decide (x / 2 ^ i % 2 = 1)

def nby (l : List Bool) : Nat := (l.length + 7) / 8

/-- The bytes. -/
def pack (l : List Bool) : List Int := (List.range (nby l)).map fun j => val ((l.drop (8 * j)).take 8)

theorem pack_length (l : List Bool) : (pack l).length = nby l := by simp [pack]

theorem bitsOf_length (x : Int) (n : Nat) : (bitsOf x n).length = n := by simp [bitsOf]

theorem bitsOf_succ (x : Int) (n : Nat) : bitsOf x (n + 1) = bitsOf x n ++ [decide (x / 2 ^ n % 2 = 1)] := by
  simp [bitsOf, List.range_succ]

theorem val_append (l m : List Bool) : val (l ++ m) = val l + 2 ^ l.length * val m := by
  induction l with
  | nil => simp [val]
  | cons b l ih =>
    simp only [List.cons_append, val, ih, List.length_cons]
    rw [Int.pow_succ]
    rw [Int.mul_add, ← Int.mul_assoc, Int.mul_comm 2 (2 ^ l.length)]
    omega

theorem val_range (l : List Bool) : 0 ≤ val l ∧ val l < 2 ^ l.length := by
  induction l with
  | nil => simp [val]
  | cons b l ih =>
    simp only [val, List.length_cons, Int.pow_succ]
    have : b01 b = 0 ∨ b01 b = 1 := by cases b <;> simp [b01]
    omega

/-- One more bit, at the begin of a byte: a new byte. -/
theorem pack_new (l : List Bool) (b : Bool) (h : l.length % 8 = 0) : pack (l ++ [b]) = pack l ++ [b01 b] := by
  apply List.ext_getElem?
  intro j
  have hn : nby (l ++ [b]) = nby l + 1 := by simp [nby]; omega
  by_cases hj : j < nby l
  · have hj8 : 8 * j + 8 ≤ l.length := by unfold nby at hj; omega
    rw [List.getElem?_append_left (by rw [pack_length]; exact hj)]
    simp only [pack, List.getElem?_map, List.getElem?_range, hn]
    rw [List.getElem?_range (by omega), List.getElem?_range hj]
    simp only [Option.map_some]
    rw [List.drop_append_of_le_length (by omega), List.take_append_of_le_length (by rw [List.length_drop]; omega)]
  · by_cases hj2 : j = nby l
    · subst hj2
      rw [List.getElem?_append_right (by rw [pack_length]; omega), pack_length]
      simp only [pack, List.getElem?_map, hn]
      rw [List.getElem?_range (by omega)]
      have hlen : l.length = 8 * nby l := by unfold nby; omega
      simp only [Option.map_some, Nat.sub_self, List.getElem?_cons_zero]
      rw [← hlen, List.drop_left]
      simp [val]
    · rw [List.getElem?_eq_none (by rw [pack_length, hn]; omega), List.getElem?_eq_none (by simp [pack_length]; omega)]

/-- One more bit, in the midst of a byte. -/
theorem pack_more (l : List Bool) (b : Bool) (h : l.length % 8 ≠ 0) :
    pack (l ++ [b]) = (pack l).set (l.length / 8) ((pack l).getD (l.length / 8) 0 + 2 ^ (l.length % 8) * b01 b) := by
  apply List.ext_getElem?
  intro j
  have hn : nby (l ++ [b]) = nby l := by simp [nby]; omega
  by_cases hj : j < nby l
  · rw [List.getElem?_set]
    by_cases hj2 : l.length / 8 = j
    · rw [if_pos hj2, if_pos (by rw [pack_length, hj2]; exact hj)]
      subst hj2
      simp only [pack, List.getElem?_map, hn, List.getD_eq_getElem?_getD]
      rw [List.getElem?_range hj]
      simp only [Option.map_some, Option.getD_some]
      rw [List.drop_append_of_le_length (by omega)]
      have hd : (l.drop (8 * (l.length / 8))).length = l.length % 8 := by rw [List.length_drop]; omega
      rw [List.take_of_length_le (by simp; omega), List.take_of_length_le (by omega), val_append, hd]
      simp [val]
    · rw [if_neg hj2]
      simp only [pack, List.getElem?_map, hn]
      rw [List.getElem?_range hj]
      simp only [Option.map_some]
      have : 8 * j + 8 ≤ l.length := by unfold nby at hj; omega
      rw [List.drop_append_of_le_length (by omega), List.take_append_of_le_length (by rw [List.length_drop]; omega)]
  · rw [List.getElem?_eq_none (by rw [pack_length, hn]; omega), List.getElem?_eq_none (by simp [pack_length]; omega)]

/-- The byte in the midst of which the next bit comes is small yet. -/
theorem pack_small (l : List Bool) (h : l.length % 8 ≠ 0) : 0 ≤ (pack l).getD (l.length / 8) 0 ∧ (pack l).getD (l.length / 8) 0 < 2 ^ (l.length % 8) := by
  have hj : l.length / 8 < nby l := by unfold nby; omega
  simp only [pack, List.getD_eq_getElem?_getD, List.getElem?_map, List.getElem?_range hj, Option.map_some, Option.getD_some]
  have hd : ((l.drop (8 * (l.length / 8))).take 8).length = l.length % 8 := by simp; omega
  have := val_range ((l.drop (8 * (l.length / 8))).take 8)
  rw [hd] at this
  exact this

theorem pack_byte (l : List Bool) : ∀ c, c ∈ pack l → 0 ≤ c ∧ c < 256 := by
  intro c hc
  simp only [pack, List.mem_map, List.mem_range] at hc
  obtain ⟨j, hj, rfl⟩ := hc
  have h := val_range ((l.drop (8 * j)).take 8)
  have h8 : ((l.drop (8 * j)).take 8).length ≤ 8 := by simp; omega
  have : (2 : Int) ^ ((l.drop (8 * j)).take 8).length ≤ 2 ^ 8 := by
    exact_mod_cast Nat.pow_le_pow_right (by decide) h8
  omega

theorem wraps_u64 (n : Int) (h₀ : 0 ≤ n) (h₁ : n < 2 ^ 64) : IntKind.u64.wrap n = n := by rw [Num.wrap_u64]; omega
theorem u64_and1 (y : Int) (h0 : 0 ≤ y) (h1 : y < 18446744073709551616) : bits .and .u64 y 1 = y % 2 :=
  bits_mask .u64 64 (by decide) wraps_u64 1 (by decide) y h0 (by simpa using h1)
theorem u8_or_comm (x y : Int) : bits .or .u8 x y = bits .or .u8 y x := by
  simp only [bits, BitVec.or_comm]

theorem shr_bound (x : Int) (k : Nat) (h0 : 0 ≤ x) : 0 ≤ x / 2 ^ k ∧ x / 2 ^ k ≤ x := by
  have hp : (0 : Int) < 2 ^ k := Int.pow_pos (by decide)
  exact ⟨Int.ediv_nonneg h0 (Int.le_of_lt hp), Int.ediv_le_self _ h0⟩

theorem b01_bit (y : Int) : y % 2 = b01 (decide (y % 2 = 1)) := by
  unfold b01
  by_cases h : y % 2 = 1
  · simp [h]
  · simp [h]; omega

/-- A bit of x is set in the midst of a byte. -/
theorem or_bit (x old : Int) (k j : Nat) (hx0 : 0 ≤ x) (hx : x < 18446744073709551616) (hk : k < 64) (hj : j < 8) (ho0 : 0 ≤ old) (ho : old < 2 ^ j) :
    bits .or .u8 old (bits .and .u64 (x / 2 ^ min k 64) 1 % 256 * 2 ^ min j 8 % 256) = old + 2 ^ j * b01 (decide (x / 2 ^ k % 2 = 1)) := by
  rw [show min k 64 = k by omega, show min j 8 = j by omega]
  have hb := shr_bound x k hx0
  rw [u64_and1 _ hb.1 (by omega)]
  have hpj : (2 : Int) ^ j ≤ 128 := by
    have : (2 : Int) ^ j ≤ 2 ^ 7 := by exact_mod_cast Nat.pow_le_pow_right (by decide) (show j ≤ 7 by omega)
    simpa using this
  have hp0 : (0 : Int) < 2 ^ j := Int.pow_pos (by decide)
  have h01 : x / 2 ^ k % 2 = 0 ∨ x / 2 ^ k % 2 = 1 := by omega
  rcases h01 with h | h
  · rw [h]
    simp only [Int.zero_emod, Int.zero_mul]
    rw [u8_or_comm, bits_join .u8 8 (by decide) wraps_u8 j 0 old (by decide) (by simp) (by decide) ho0 ho (by omega)]
    simp [b01]
  · rw [h]
    have e : (1 : Int) % 256 * 2 ^ j % 256 = 2 ^ j := by
      rw [show (1 : Int) % 256 = 1 by decide, Int.one_mul]
      exact Int.emod_eq_of_lt (by omega) (by omega)
    rw [e, u8_or_comm, bits_join .u8 8 (by decide) wraps_u8 j (2 ^ j) old (by omega) (by simp) (by omega) ho0 ho (by omega)]
    simp [b01, Int.add_comm]

/-- What Put's round does to the bytes: where the next bit comes. -/
theorem pack_step (l : List Bool) (b : Bool) (P : List Int) (hP : P = if l.length % 8 = 0 then pack l ++ [0] else pack l) :
    l.length / 8 < nby (l ++ [b]) ∧ P.length = nby (l ++ [b]) ∧ 0 ≤ P.getD (l.length / 8) 0 ∧ P.getD (l.length / 8) 0 < 2 ^ (l.length % 8) ∧
      pack (l ++ [b]) = P.set (l.length / 8) (P.getD (l.length / 8) 0 + 2 ^ (l.length % 8) * b01 b) := by
  by_cases h : l.length % 8 = 0
  · rw [if_pos h] at hP
    subst hP
    have hq : l.length / 8 = nby l := by unfold nby; omega
    have hn : nby (l ++ [b]) = nby l + 1 := by simp [nby]; omega
    refine ⟨by omega, by simp [pack_length, hn], ?_, ?_, ?_⟩
    · rw [hq, ← pack_length l]; simp
    · rw [hq, ← pack_length l, h]; simp
    · rw [pack_new l b h, hq, h, ← pack_length l]; simp
  · rw [if_neg h] at hP
    subst hP
    have hn : nby (l ++ [b]) = nby l := by simp [nby]; omega
    have := pack_small l h
    exact ⟨by rw [hn]; unfold nby; omega, by rw [pack_length, hn], this.1, this.2, pack_more l b h⟩

end Go.Proofs.Ytpnnalkihcemhaa.Bits
