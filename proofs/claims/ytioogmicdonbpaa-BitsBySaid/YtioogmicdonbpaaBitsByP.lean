/- A number's bits one by one; plain. -/
import Derived.Test.YtioogmicdonbpaaAwake06
import Derived.Test.YtioogmicdonbpaaRSmall
import Derived.Test.YtioogmicdonbpaaOpen
import Derived.Test.YtioogmicdonbpaaMix2
import Derived.Test.YtioogmicdonbpaaApp2
set_option linter.unusedVariables false
set_option linter.unusedSimpArgs false
namespace Go.Proofs.Ytioogmicdonbpaa.Wr
open Go.RowKit Go.Proofs.Ytioogmicdonbpaa.Mem Go.Proofs.Ytioogmicdonbpaa.Bits Go.Proofs.Ytioogmicdonbpaa.Num Go.Proofs.Ytioogmicdonbpaa.Open Go.Proofs.YtioogmicdonbpaaW.PrintWords

theorem rem_facts {n : Int} (q : Nat) (hq : 0 < q) (hq2 : q ≤ 100) (h0 : 0 ≤ n) (h1 : n < 256) : ∃ k : Nat, n.tmod (q : Int) = (k : Int) ∧ k < q ∧ IntKind.i64.wrap (k : Int) = (k : Int) := by
  refine ⟨(n % (q : Int)).toNat, ?_⟩
  have h2 := Int.emod_nonneg n (show (q : Int) ≠ 0 by omega)
  have h3 := Int.emod_lt_of_pos n (show 0 < (q : Int) by omega)
  rw [Int.tmod_eq_emod_of_nonneg h0, wrap_i64]; unfold wrap64
  omega
theorem bitsOf_one (x : Int) (i : Nat) : bitsOf (x / 2 ^ i) 1 = [decide (x / 2 ^ i % 2 = 1)] := by simp [bitsOf]
theorem put_one (L : List Bool) (x : Int) (i : Nat) : L ++ bitsOf x i ++ bitsOf (x / 2 ^ i) 1 = L ++ bitsOf x (i + 1) := by rw [bitsOf_one, List.append_assoc, ← bitsOf_succ]
theorem one_bits (L : List Bool) (x : Int) (k i n : Nat) (hi : i < k) (hn : L.length = n) : ((bitsB (pack (L ++ bitsOf x k))).drop (n + i)).take 1 = [decide (x / 2 ^ i % 2 = 1)] := by
  rw [bitsB_pack, List.drop_append_of_le_length (by rw [List.length_append, bitsOf_length]; omega), List.drop_append, ← hn, List.drop_of_length_le (by omega), List.nil_append, show L.length + i - L.length = i by omega]
  have hg : (bitsOf x k)[i]'(by rw [bitsOf_length]; exact hi) = decide (x / 2 ^ i % 2 = 1) := by simp [bitsOf]
  rw [List.drop_eq_getElem_cons (by rw [bitsOf_length]; exact hi), hg]
  rfl
theorem val_one (b : Bool) : val [b] = b01 b := by simp [val]
theorem y_step {x : Int} (i : Nat) (hx : 0 ≤ x) (hi : i < 64) : ∃ q c D c' : Int, b01 (decide (x / 2 ^ i % 2 = 1)) = q ∧ x % 2 ^ i = c ∧ x % 2 ^ (i + 1) = c' ∧ q * 2 ^ i = D ∧ IntKind.u64.wrap D = D ∧ IntKind.u64.wrap (c + D) = c' ∧ 0 ≤ q ∧ q ≤ 1 ∧ c + D = c' ∧ IntKind.u64.wrap c' = c' := by
  obtain ⟨X, rfl⟩ := Int.eq_ofNat_of_zero_le hx
  have e1 : ((X : Int) / 2 ^ i) = ((X / 2 ^ i : Nat) : Int) := by rw [Int.natCast_ediv, Int.natCast_pow]; rfl
  have e2 : ((X : Int) % 2 ^ i) = ((X % 2 ^ i : Nat) : Int) := by rw [Int.natCast_emod, Int.natCast_pow]; rfl
  have e3 : ((X : Int) % 2 ^ (i + 1)) = ((X % 2 ^ (i + 1) : Nat) : Int) := by rw [Int.natCast_emod, Int.natCast_pow]; rfl
  have e4 : (2 : Int) ^ i = ((2 ^ i : Nat) : Int) := by rw [Int.natCast_pow]; rfl
  have h5 : X % 2 ^ (i + 1) = X % 2 ^ i + 2 ^ i * (X / 2 ^ i % 2) := by rw [Nat.pow_succ]; exact Nat.mod_mul
  have h6 : 2 ^ (i + 1) ≤ 2 ^ 64 := Nat.pow_le_pow_right (by decide) (by omega)
  have h7 : X % 2 ^ (i + 1) < 2 ^ (i + 1) := Nat.mod_lt _ (Nat.pow_pos (by decide))
  have h64 : (2 : Nat) ^ 64 = 18446744073709551616 := by decide
  have hq : b01 (decide ((X : Int) / 2 ^ i % 2 = 1)) = ((X / 2 ^ i % 2 : Nat) : Int) := by
    rw [← b01_bit, e1]; omega
  refine ⟨_, _, _, _, hq, e2, e3, rfl, ?_, ?_, by omega, by omega, ?_, ?_⟩
  · rw [wrap_u64, e4]
    have hm : X / 2 ^ i % 2 * 2 ^ i ≤ X % 2 ^ (i + 1) := by rw [h5, Nat.mul_comm]; omega
    generalize X / 2 ^ i % 2 = q at *
    generalize 2 ^ i = p at *
    have : ((q : Int) * (p : Int)) = ((q * p : Nat) : Int) := by rw [Int.natCast_mul]
    rw [this]
    omega
  · rw [wrap_u64, e4, h5]
    rw [h5] at h7
    generalize X / 2 ^ i % 2 = q at *
    generalize X % 2 ^ i = c at *
    have : ((q : Int) * ((2 ^ i : Nat) : Int)) = ((2 ^ i * q : Nat) : Int) := by rw [Int.natCast_mul, Int.mul_comm]
    rw [this]
    omega
  · rw [e4, h5]
    generalize X / 2 ^ i % 2 = q at *
    have : ((q : Int) * ((2 ^ i : Nat) : Int)) = ((2 ^ i * q : Nat) : Int) := by rw [Int.natCast_mul, Int.mul_comm]
    rw [this]
    omega
  · rw [wrap_u64]; omega
theorem reads_of {w : World} {A : Option Addr} {n c : Nat} {xs : List Int} (h : Rd w (.slice A n c) n (nums .u8 xs)) (hl : xs.length = n) (hn : n ≤ 1000000) : ReadsInt w .u8 A n xs := by
  refine ⟨hl, by omega, fun hp => ?_⟩
  rcases h with ⟨h1, h2, h3⟩ | ⟨ad, c', h1, _, _, hr⟩
  · omega
  · simp only [Value.slice.injEq] at h1
    refine ⟨ad, h1.1, fun j hj => hr j _ ?_⟩
    have hj2 : j < xs.length := by omega
    rw [nums, List.getElem?_map, List.getElem?_eq_getElem hj2, List.getD_eq_getElem?_getD, List.getElem?_eq_getElem hj2]
    rfl

end Go.Proofs.Ytioogmicdonbpaa.Wr
