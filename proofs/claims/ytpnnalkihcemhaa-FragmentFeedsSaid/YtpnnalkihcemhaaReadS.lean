/- A small number, read; plain. -/
import Derived.Test.YtpnnalkihcemhaaBitsR
set_option linter.unusedVariables false
set_option linter.unusedSimpArgs false
namespace Go.Proofs.Ytpnnalkihcemhaa.Bits
open Go.RowKit

/-- The number without its sign's place, and how many bytes it has; from the byte number i on. -/
def readS (i : Nat) (l : List Bool) : Option (Nat × Nat) :=
  if h : l.length < 8 then none
  else
    let c := (val (l.take 8)).toNat
    if (i = 9 ∧ c / 2 ≠ 1) ∨ (0 < i ∧ c = 0) ∨ (i = 9 ∧ c % 2 = 1) then none
    else if c % 2 = 0 then some (c / 2, 1)
    else (readS (i + 1) (l.drop 8)).map fun p => (c / 2 + 128 * p.1, p.2 + 1)
termination_by l.length
decreasing_by simp; omega

def unzig (u : Nat) : Int := if u % 2 = 0 then ((u / 2 : Nat) : Int) else -((u / 2 : Nat) : Int) - 1

theorem unzig_zig (x : Int) : unzig (zig x).toNat = x := by
  unfold unzig zig
  split <;> split <;> omega

theorem zig_unzig (u : Nat) : zig (unzig u) = u := by
  unfold unzig zig
  split <;> split <;> omega

theorem unzig_range (u : Nat) (h : u < 18446744073709551616) : -9223372036854775808 ≤ unzig u ∧ unzig u ≤ 9223372036854775807 := by
  unfold unzig
  split <;> omega

theorem byte_range (l : List Bool) : 0 ≤ val (l.take 8) ∧ val (l.take 8) < 256 := by
  have := val_take_range l 8
  simpa using this

/-- Read behind what was put. -/
theorem readS_put (u : Nat) : ∀ (i : Nat) (tl : List Bool), i ≤ 9 → u * 128 ^ i < 18446744073709551616 → (0 < i → u ≠ 0) → readS i (smallB u ++ tl) = some (u, (smallB u).length / 8) := by
  induction u using Nat.strongRecOn with
  | _ u ih =>
    intro i tl hi hu h0
    by_cases h : u < 128
    · have e := smallB_lt h
      rw [readS, dif_neg (by rw [e, List.length_append, bitsOf_length]; omega)]
      have ht : (smallB u ++ tl).take 8 = bitsOf (2 * (u : Int)) 8 := by
        rw [e, List.take_append_of_le_length (by rw [bitsOf_length]; omega), List.take_of_length_le (by rw [bitsOf_length]; omega)]
      have hv : (val (bitsOf (2 * (u : Int)) 8)).toNat = 2 * u := by
        rw [val_bitsOf _ _ (by omega)]
        have : (2 : Int) ^ 8 = 256 := by decide
        rw [this]; omega
      simp only [ht, hv]
      have h9 : i = 9 → u = 1 := by
        intro h9
        subst h9
        have : 128 ^ 9 = 9223372036854775808 := by decide
        rw [this] at hu
        have := h0 (by omega)
        omega
      rw [if_neg (by rintro (⟨h1, h2⟩ | ⟨h1, h2⟩ | ⟨h1, h2⟩) <;> first | (have := h9 h1; omega) | (have := h0 h1; omega) | omega), if_pos (by omega)]
      rw [e, bitsOf_length]
      simp
    · have e := smallB_ge h
      rw [readS, dif_neg (by rw [e]; simp only [List.length_append, bitsOf_length]; omega)]
      have ht : (smallB u ++ tl).take 8 = bitsOf (1 + 2 * ((u % 128 : Nat) : Int)) 8 := by
        rw [e, List.append_assoc, List.take_append_of_le_length (by rw [bitsOf_length]; omega), List.take_of_length_le (by rw [bitsOf_length]; omega)]
      have hd : (smallB u ++ tl).drop 8 = smallB (u / 128) ++ tl := by
        rw [e, List.append_assoc, List.drop_append_of_le_length (by rw [bitsOf_length]; omega), List.drop_eq_nil_of_le (by rw [bitsOf_length]; omega), List.nil_append]
      have hv : (val (bitsOf (1 + 2 * ((u % 128 : Nat) : Int)) 8)).toNat = 1 + 2 * (u % 128) := by
        rw [val_bitsOf _ _ (by omega)]
        have : (2 : Int) ^ 8 = 256 := by decide
        rw [this]; omega
      simp only [ht, hv, hd]
      have hi9 : i ≠ 9 := by
        intro h9
        subst h9
        have : 128 ^ 9 = 9223372036854775808 := by decide
        rw [this] at hu
        omega
      rw [if_neg (by rintro (⟨h1, h2⟩ | ⟨h1, h2⟩ | ⟨h1, h2⟩) <;> first | exact hi9 h1 | omega), if_neg (by omega)]
      rw [ih (u / 128) (by omega) (i + 1) tl (by omega) (by
        rw [Nat.pow_succ]
        have h2 : u / 128 * (128 ^ i * 128) ≤ u * 128 ^ i := by
          rw [Nat.mul_comm (128 ^ i) 128, ← Nat.mul_assoc]
          exact Nat.mul_le_mul_right _ (Nat.div_mul_le_self u 128)
        omega) (fun _ => by omega)]
      simp only [Option.map_some]
      rw [e, List.length_append, bitsOf_length]
      congr 2
      · omega
      · omega

theorem bitsOf_val (l : List Bool) : bitsOf (val l) l.length = l := by
  induction l with
  | nil => rfl
  | cons b l ih => rw [val, List.length_cons, bitsOf_cons, ih]

theorem top (i : Nat) (hi : i + 1 ≤ 9) (u c : Nat) (hc : c < 128) (h : u * 128 ^ (i + 1) < 18446744073709551616) : (c + 128 * u) * 128 ^ i < 18446744073709551616 := by
  have e : (18446744073709551616 : Nat) = (2 * 128 ^ (9 - (i + 1))) * 128 ^ (i + 1) := by
    rw [Nat.mul_assoc, ← Nat.pow_add, show 9 - (i + 1) + (i + 1) = 9 by omega]
  rw [e] at h ⊢
  have hu : u < 2 * 128 ^ (9 - (i + 1)) := Nat.lt_of_mul_lt_mul_right h
  generalize 2 * 128 ^ (9 - (i + 1)) = M at *
  rw [Nat.pow_succ, Nat.mul_comm (128 ^ i) 128, ← Nat.mul_assoc]
  exact Nat.mul_lt_mul_of_pos_right (by omega) (Nat.pow_pos (by decide))

/-- What is read was put so. -/
theorem readS_some : ∀ (n : Nat) (l : List Bool) (i u k : Nat), l.length ≤ n → readS i l = some (u, k) → i ≤ 9 →
    l = smallB u ++ l.drop (8 * k) ∧ (smallB u).length = 8 * k ∧ u * 128 ^ i < 18446744073709551616 ∧ (0 < i → u ≠ 0) := by
  intro n
  induction n with
  | zero => intro l i u k hl h; rw [readS, dif_pos (by omega)] at h; cases h
  | succ n ih =>
    intro l i u k hl h hi
    rw [readS] at h
    split at h
    · cases h
    · rename_i h8
      simp only at h
      have hc := byte_range l
      have hlt : (l.take 8).length = 8 := by simp; omega
      have hbits : l.take 8 = bitsOf (((val (l.take 8)).toNat : Nat) : Int) 8 := by
        have := bitsOf_val (l.take 8)
        rw [hlt] at this
        rw [Int.toNat_of_nonneg hc.1]
        exact this.symm
      have hlr : l = l.take 8 ++ l.drop 8 := (List.take_append_drop 8 l).symm
      have hcr : (val (l.take 8)).toNat < 256 := by omega
      generalize (val (l.take 8)).toNat = c at *
      split at h
      · cases h
      · rename_i hbad
        have hb1 : i = 9 → c / 2 = 1 := fun h9 => by
          by_cases hc2 : c / 2 = 1
          · exact hc2
          · exact absurd (Or.inl ⟨h9, hc2⟩) hbad
        have hb2 : 0 < i → c ≠ 0 := fun h0 hc0 => hbad (Or.inr (Or.inl ⟨h0, hc0⟩))
        have hb3 : i = 9 → c % 2 ≠ 1 := fun h9 hc1 => hbad (Or.inr (Or.inr ⟨h9, hc1⟩))
        split at h
        · rename_i heven
          simp only [Option.some.injEq, Prod.mk.injEq] at h
          obtain ⟨rfl, rfl⟩ := h
          have hs : smallB (c / 2) = bitsOf (c : Int) 8 := by
            rw [smallB_lt (by omega), show 2 * ((c / 2 : Nat) : Int) = (c : Int) by omega]
          refine ⟨?_, by rw [hs, bitsOf_length], ?_, fun h0 => by have := hb2 h0; omega⟩
          · rw [hs, ← hbits]; exact hlr
          · by_cases h9 : i = 9
            · rw [hb1 h9, h9]; decide
            · have : c / 2 * 128 ^ i ≤ 127 * 128 ^ 8 := Nat.mul_le_mul (by omega) (Nat.pow_le_pow_right (by decide) (by omega))
              have e : (127 : Nat) * 128 ^ 8 = 9151314442816847872 := by decide
              omega
        · rename_i hodd
          obtain ⟨⟨u', k'⟩, hr, hp⟩ := Option.map_eq_some_iff.1 h
          simp only [Prod.mk.injEq] at hp
          obtain ⟨rfl, rfl⟩ := hp
          have hi9 : i ≠ 9 := fun h9 => hb3 h9 (by omega)
          obtain ⟨q1, q2, q3, q4⟩ := ih (l.drop 8) (i + 1) u' k' (by rw [List.length_drop]; omega) hr (by omega)
          have hu0 := q4 (by omega)
          have hge : ¬ c / 2 + 128 * u' < 128 := by omega
          have hs : smallB (c / 2 + 128 * u') = bitsOf (c : Int) 8 ++ smallB u' := by
            rw [smallB_ge hge, show (c / 2 + 128 * u') / 128 = u' by omega, show 1 + 2 * (((c / 2 + 128 * u') % 128 : Nat) : Int) = (c : Int) by omega]
          refine ⟨?_, ?_, top i (by omega) u' (c / 2) (by omega) q3, fun _ => by omega⟩
          · rw [hs, ← hbits, List.append_assoc]
            rw [List.drop_drop] at q1
            rw [show 8 * (k' + 1) = 8 + 8 * k' by omega, ← q1]
            exact hlr
          · rw [hs, List.length_append, bitsOf_length, q2]; omega

theorem u64_shr1_lt (c : Int) (h0 : 0 ≤ c) (h : c < 256) : 0 ≤ c / 2 ∧ c / 2 < 128 := by omega

/-- Seven bits more are joined to a number below them. -/
theorem or_small (a : Int) (c i : Nat) (ha0 : 0 ≤ a) (ha : a < 128 ^ i) (hc : c < 128) (hi : i ≤ 9) (h9 : i = 9 → c ≤ 1) :
    bits .or .u64 a (IntKind.u64.wrap ((c : Int) * 2 ^ (7 * i))) = a + 128 ^ i * (c : Int) := by
  have hp : (128 : Int) ^ i = 2 ^ (7 * i) := by rw [Int.pow_mul]; rfl
  rw [hp] at ha ⊢
  have hlt : (c : Int) * 2 ^ (7 * i) < 18446744073709551616 := by
    by_cases h : i = 9
    · subst h
      have := h9 rfl
      have e : (2 : Int) ^ (7 * 9) = 9223372036854775808 := by decide
      rw [e]; omega
    · have h2 : (2 : Int) ^ (7 * i) ≤ 2 ^ 56 := by exact_mod_cast Nat.pow_le_pow_right (by decide) (show 7 * i ≤ 56 by omega)
      have e : (2 : Int) ^ 56 = 72057594037927936 := by decide
      rw [e] at h2
      have h3 : (c : Int) * 2 ^ (7 * i) ≤ 127 * 2 ^ (7 * i) := Int.mul_le_mul_of_nonneg_right (by omega) (Int.le_of_lt (Int.pow_pos (by decide)))
      omega
  have hpos : 0 ≤ (c : Int) * 2 ^ (7 * i) := Int.mul_nonneg (by omega) (Int.le_of_lt (Int.pow_pos (by decide)))
  rw [Num.wrap_u64, Int.emod_eq_of_lt hpos hlt, u64_or_comm]
  have h64 : a < 2 ^ 64 := by
    have h2 : (2 : Int) ^ (7 * i) ≤ 2 ^ 64 := by exact_mod_cast Nat.pow_le_pow_right (by decide) (show 7 * i ≤ 64 by omega)
    omega
  rw [bits_join .u64 64 (by decide) wraps_u64 (7 * i) _ a hpos (by exact Int.mul_emod_left _ _) (by simpa using hlt) ha0 ha h64]
  rw [Int.mul_comm, Int.add_comm]

theorem i64_xor0 (a : Int) (h0 : 0 ≤ a) (h1 : a < 9223372036854775808) : bits .xor .i64 a 0 = a := by
  obtain ⟨n, rfl⟩ := Int.eq_ofNat_of_zero_le h0
  show IntKind.i64.wrap (((BitVec.ofInt 64 (n : Int)) ^^^ (BitVec.ofInt 64 0)).toNat : Int) = (n : Int)
  have : (BitVec.ofInt 64 0) = 0#64 := by decide
  rw [this, BitVec.xor_zero, BitVec.ofInt_natCast, BitVec.toNat_ofNat, Num.wrap_i64]
  unfold wrap64
  omega

theorem i64_xor1 (a : Int) (h0 : 0 ≤ a) (h1 : a < 9223372036854775808) : bits .xor .i64 a (-1) = -a - 1 := by
  obtain ⟨n, rfl⟩ := Int.eq_ofNat_of_zero_le h0
  show IntKind.i64.wrap (((BitVec.ofInt 64 (n : Int)) ^^^ (BitVec.ofInt 64 (-1))).toNat : Int) = -(n : Int) - 1
  have : (BitVec.ofInt 64 (-1)) = BitVec.allOnes 64 := by decide
  rw [this, BitVec.xor_allOnes, BitVec.ofInt_natCast, BitVec.toNat_not, BitVec.toNat_ofNat, Num.wrap_i64]
  unfold wrap64
  omega

theorem fin_val (U : Nat) (h : U < 18446744073709551616) : bits .xor .i64 (wrap64 ((U : Int) / 2)) (wrap64 (-wrap64 (bits .and .u64 (U : Int) 1))) = unzig U := by
  rw [u64_and1 _ (by omega) (by omega)]
  have e1 : wrap64 ((U : Int) / 2) = (U : Int) / 2 := by unfold wrap64; omega
  have e2 : wrap64 (-wrap64 ((U : Int) % 2)) = -((U : Int) % 2) := by unfold wrap64; omega
  rw [e1, e2]
  unfold unzig
  split
  · rw [show -((U : Int) % 2) = 0 by omega, i64_xor0 _ (by omega) (by omega)]; omega
  · rw [show -((U : Int) % 2) = -1 by omega, i64_xor1 _ (by omega) (by omega)]; omega

theorem acc_bound (acc c i : Nat) (hi : i ≤ 9) (ha : acc < 128 ^ i) (hc : c < 128) (h9 : i = 9 → c ≤ 1) : acc + 128 ^ i * c < 18446744073709551616 := by
  by_cases h : i = 9
  · subst h
    have := h9 rfl
    have e : (128 : Nat) ^ 9 = 9223372036854775808 := by decide
    rw [e] at ha ⊢
    omega
  · have h2 : 128 ^ i ≤ 128 ^ 8 := Nat.pow_le_pow_right (by decide) (by omega)
    have e : (128 : Nat) ^ 8 = 72057594037927936 := by decide
    rw [e] at h2
    have h3 : 128 ^ i * c ≤ 72057594037927936 * 127 := Nat.mul_le_mul h2 (by omega)
    omega

theorem readS_short {i : Nat} {l : List Bool} (h : l.length < 8) : readS i l = none := by rw [readS, dif_pos h]
theorem readS_bad {i c : Nat} {l : List Bool} (h : 8 ≤ l.length) (hc : val (l.take 8) = (c : Int)) (hb : (i = 9 ∧ c / 2 ≠ 1) ∨ (0 < i ∧ c = 0) ∨ (i = 9 ∧ c % 2 = 1)) : readS i l = none := by
  rw [readS, dif_neg (by omega)]
  simp only [hc, Int.toNat_natCast]
  rw [if_pos hb]
theorem readS_even {i c : Nat} {l : List Bool} (h : 8 ≤ l.length) (hc : val (l.take 8) = (c : Int)) (hb : ¬ ((i = 9 ∧ c / 2 ≠ 1) ∨ (0 < i ∧ c = 0) ∨ (i = 9 ∧ c % 2 = 1))) (he : c % 2 = 0) : readS i l = some (c / 2, 1) := by
  rw [readS, dif_neg (by omega)]
  simp only [hc, Int.toNat_natCast]
  rw [if_neg hb, if_pos he]
theorem readS_odd {i c : Nat} {l : List Bool} (h : 8 ≤ l.length) (hc : val (l.take 8) = (c : Int)) (hb : ¬ ((i = 9 ∧ c / 2 ≠ 1) ∨ (0 < i ∧ c = 0) ∨ (i = 9 ∧ c % 2 = 1))) (he : c % 2 = 1) : readS i l = (readS (i + 1) (l.drop 8)).map fun p => (c / 2 + 128 * p.1, p.2 + 1) := by
  rw [readS, dif_neg (by omega)]
  simp only [hc, Int.toNat_natCast]
  rw [if_neg hb, if_neg (by omega)]

/-- The bytes of bits, read as bits: the bits, and zeros to the last byte's end. -/
theorem bitsB_pack (l : List Bool) : bitsB (pack l) = l ++ List.replicate (8 * nby l - l.length) false := by
  apply List.ext_getElem?
  intro i
  by_cases hi : i < 8 * nby l
  · have hj : i / 8 < nby l := by omega
    rw [bitsB_get (pack l) i _ (pack_get l (i / 8) hj)]
    have e1 : bitsOf (val ((l.drop (8 * (i / 8))).take 8)) ((l.drop (8 * (i / 8))).take 8).length = (l.drop (8 * (i / 8))).take 8 := bitsOf_val _
    by_cases hil : i < l.length
    · rw [List.getElem?_append_left hil]
      have hlen : i % 8 < ((l.drop (8 * (i / 8))).take 8).length := by simp; omega
      have e2 : (bitsOf (val ((l.drop (8 * (i / 8))).take 8)) ((l.drop (8 * (i / 8))).take 8).length)[i % 8]? = some (decide (val ((l.drop (8 * (i / 8))).take 8) / 2 ^ (i % 8) % 2 = 1)) := by
        simp only [bitsOf, List.getElem?_map]
        rw [List.getElem?_range hlen]
        rfl
      rw [e1] at e2
      rw [← e2, List.getElem?_take, if_pos (by omega), List.getElem?_drop, show 8 * (i / 8) + i % 8 = i by omega]
    · rw [List.getElem?_append_right (by omega), List.getElem?_replicate, if_pos (by omega)]
      have hr := val_range ((l.drop (8 * (i / 8))).take 8)
      have hlen : ((l.drop (8 * (i / 8))).take 8).length ≤ i % 8 := by simp; omega
      have hle : (2 : Int) ^ ((l.drop (8 * (i / 8))).take 8).length ≤ 2 ^ (i % 8) := by exact_mod_cast Nat.pow_le_pow_right (by decide) hlen
      rw [Int.ediv_eq_zero_of_lt hr.1 (by omega)]
      rfl
  · rw [List.getElem?_eq_none (by rw [bitsB_length, pack_length]; omega), List.getElem?_eq_none (by rw [List.length_append, List.length_replicate]; have : l.length ≤ 8 * nby l := by unfold nby; omega
                                                                                                    omega)]

theorem val_replicate (n : Nat) : val (List.replicate n false) = 0 := by
  rw [val_zero]
  intro b hb
  exact (List.mem_replicate.1 hb).2

end Go.Proofs.Ytpnnalkihcemhaa.Bits
