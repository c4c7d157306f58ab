/- A small number as the reference reads it: what ends is put again; plain. -/
import Derived.Test.YtfcncmhcmbghpaaReadS
set_option linter.unusedVariables false
set_option linter.unusedSimpArgs false
namespace Go.Proofs.Ytfcncmhcmbghpaa.Bits
open Go.RowKit

/-- The number and its bytes, up to the first that has none behind it. -/
def refGo : Nat → List Bool → Option (Nat × Nat)
  | 0, _ => none
  | r + 1, l => if l.length < 8 then none else if l.getD 0 false = false then some ((val ((l.drop 1).take 7)).toNat, 1) else (refGo r (l.drop 8)).map fun p => ((val ((l.drop 1).take 7)).toNat + 128 * p.1, p.2 + 1)

theorem byte_split (l : List Bool) (h : 8 ≤ l.length) : val (l.take 8) = b01 (l.getD 0 false) + 2 * val ((l.drop 1).take 7) := by
  cases l with
  | nil => simp at h
  | cons b l => simp only [List.take_succ_cons, val, List.getD_cons_zero, List.drop_succ_cons, List.drop_zero]

theorem readS_refGo : ∀ (n : Nat) (l : List Bool) (i u k : Nat), l.length ≤ n → i ≤ 9 → readS i l = some (u, k) → refGo (10 - i) l = some (u, k) := by
  intro n
  induction n with
  | zero => intro l i u k hl hi h; rw [readS, dif_pos (by omega)] at h; cases h
  | succ n ih =>
    intro l i u k hl hi h
    rw [readS] at h
    split at h
    · cases h
    · rename_i h8
      simp only at h
      have hs := byte_split l (by omega)
      have hr := val_take_range (l.drop 1) 7
      have hc := byte_range l
      obtain ⟨c, hcv⟩ : ∃ c : Nat, (val (l.take 8)).toNat = c := ⟨_, rfl⟩
      obtain ⟨y, hyv⟩ : ∃ y : Nat, (val ((l.drop 1).take 7)).toNat = y := ⟨_, rfl⟩
      have hcy : (c : Int) = b01 (l.getD 0 false) + 2 * (y : Int) := by omega
      rw [hcv] at h
      split at h
      · cases h
      · rename_i hbad
        rw [show 10 - i = 9 - i + 1 by omega, refGo, if_neg h8, hyv]
        split at h
        · rename_i heven
          have hb : l.getD 0 false = false := by
            cases hb : l.getD 0 false with
            | false => rfl
            | true => rw [hb] at hcy; simp only [b01, if_true] at hcy; omega
          rw [hb] at hcy
          simp only [b01, Bool.false_eq_true, if_false] at hcy
          rw [if_pos hb, ← h]
          congr 2
          omega
        · rename_i hodd
          have hb : l.getD 0 false = true := by
            cases hb : l.getD 0 false with
            | true => rfl
            | false => rw [hb] at hcy; simp only [b01, Bool.false_eq_true, if_false] at hcy; omega
          rw [hb] at hcy
          simp only [b01, if_true] at hcy
          rw [if_neg (by rw [hb]; decide)]
          obtain ⟨⟨u', k'⟩, hr', hp⟩ := Option.map_eq_some_iff.1 h
          have hi9 : i ≠ 9 := fun h9 => hbad (Or.inr (Or.inr ⟨h9, by omega⟩))
          have := ih (l.drop 8) (i + 1) u' k' (by rw [List.length_drop]; omega) (by omega) hr'
          rw [show 9 - i = 10 - (i + 1) by omega, this, Option.map_some, ← hp]
          congr 2
          simp only
          omega

def refS (l : List Bool) : Option (Nat × Nat) :=
  match refGo 10 l with
  | none => none
  | some (U, k) => if l.take (8 * k) = smallB (U % 18446744073709551616) then some (U % 18446744073709551616, k) else none

theorem refS_eq (l : List Bool) : refS l = readS 0 l := by
  unfold refS
  cases hr : readS 0 l with
  | some p =>
    obtain ⟨u, k⟩ := p
    have h1 := readS_refGo l.length l 0 u k (Nat.le_refl _) (by omega) hr
    obtain ⟨q1, q2, q3, _⟩ := readS_some l.length l 0 u k (Nat.le_refl _) hr (by omega)
    rw [Nat.pow_zero, Nat.mul_one] at q3
    rw [show 10 - 0 = 10 from rfl] at h1
    rw [h1]
    simp only
    rw [Nat.mod_eq_of_lt q3, if_pos]
    rw [q1, ← q2, List.take_left]
  | none =>
    split
    · rfl
    · rename_i U k hg
      split
      · rename_i ht
        exfalso
        have hp := readS_put (U % 18446744073709551616) 0 (l.drop (8 * k)) (by omega) (by rw [Nat.pow_zero]; omega) (fun h => by omega)
        rw [← ht, List.take_append_drop, hr] at hp
        cases hp
      · rfl

theorem refGo_short {r : Nat} {l : List Bool} (h : l.length < 8) : refGo r l = none := by
  cases r with
  | zero => rfl
  | succ r => rw [refGo, if_pos h]
theorem refGo_end {r : Nat} {l : List Bool} {y : Nat} (h : 8 ≤ l.length) (hb : l.getD 0 false = false) (hy : val ((l.drop 1).take 7) = (y : Int)) : refGo (r + 1) l = some (y, 1) := by
  rw [refGo, if_neg (by omega), if_pos hb, hy, Int.toNat_natCast]
theorem refGo_more {r : Nat} {l : List Bool} {y : Nat} (h : 8 ≤ l.length) (hb : l.getD 0 false = true) (hy : val ((l.drop 1).take 7) = (y : Int)) : refGo (r + 1) l = (refGo r (l.drop 8)).map fun p => (y + 128 * p.1, p.2 + 1) := by
  rw [refGo, if_neg (by omega), if_neg (by rw [hb]; decide), hy, Int.toNat_natCast]

end Go.Proofs.Ytfcncmhcmbghpaa.Bits
