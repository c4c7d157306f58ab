/- Windows of numbers that go round; plain. -/
import Derived.Test.YtlhlkjllihbokaaNum
set_option linter.unusedVariables false
set_option linter.unusedSimpArgs false
namespace Go.Proofs.Ytlhlkjllihbokaa.Ser

structure Win where
  any : Bool
  last : Int
  mask : Int

/-- The steps from a to b, the short way. -/
def steps (a b : Int) : Int := if (b - a) % 65536 < 32768 then (b - a) % 65536 else (b - a) % 65536 - 65536
def bit (m : Int) (i : Nat) : Bool := m.toNat.testBit i
def orI (x y : Int) : Int := ((x.toNat ||| y.toNat : Nat) : Int)
def hasW (w : Win) (n : Int) : Bool := w.any && (decide (steps w.last n = 0) || (decide (steps w.last n < 0) && (decide (-32 ≤ steps w.last n) && bit w.mask (-(steps w.last n) - 1).toNat)))
def shl32 (x : Int) (d : Nat) : Int := x * 2 ^ d % 4294967296
def takeW (w : Win) (n : Int) : Win × Bool :=
  if w.any = false then (⟨true, n, 0⟩, true)
  else if 0 < steps w.last n then (⟨true, n, orI (shl32 w.mask (steps w.last n).toNat) (shl32 1 (steps w.last n - 1).toNat)⟩, true)
  else if steps w.last n = 0 ∨ steps w.last n < -32 ∨ hasW w n = true then (w, false)
  else (⟨true, w.last, orI w.mask (shl32 1 (-(steps w.last n) - 1).toNat)⟩, true)

theorem steps_near (f a b : Int) (h : -32768 ≤ b - a) (h2 : b - a < 32768) : steps ((f + a) % 65536) ((f + b) % 65536) = b - a := by
  unfold steps
  split <;> omega

theorem orI_range (x y : Int) (hx : x < 4294967296) (hy : y < 4294967296) : 0 ≤ orI x y ∧ orI x y < 4294967296 := by
  unfold orI
  have h := @Nat.or_lt_two_pow x.toNat y.toNat 32 (by omega) (by omega)
  omega
theorem bit_or (x y : Int) (i : Nat) : bit (orI x y) i = (bit x i || bit y i) := by
  unfold bit orI
  rw [Int.toNat_natCast, Nat.testBit_or]
theorem shl32_range (x : Int) (d : Nat) : 0 ≤ shl32 x d ∧ shl32 x d < 4294967296 := by
  unfold shl32
  exact ⟨Int.emod_nonneg _ (by decide), Int.emod_lt_of_pos _ (by decide)⟩
theorem bit_shl (x : Int) (d i : Nat) (hx : 0 ≤ x) (hi : i < 32) : bit (shl32 x d) i = (decide (d ≤ i) && bit x (i - d)) := by
  unfold bit shl32
  obtain ⟨n, rfl⟩ := Int.eq_ofNat_of_zero_le hx
  have : ((n : Int) * 2 ^ d % 4294967296).toNat = (n * 2 ^ d) % 2 ^ 32 := by
    have e : (n : Int) * 2 ^ d % 4294967296 = ((n * 2 ^ d % 2 ^ 32 : Nat) : Int) := by
      rw [Int.natCast_emod, Int.natCast_mul, Int.natCast_pow]; rfl
    rw [e, Int.toNat_natCast]
  rw [this, Nat.testBit_mod_two_pow, Nat.testBit_mul_two_pow, Int.toNat_natCast]
  simp [hi]
theorem bit_one (i : Nat) : bit 1 i = decide (i = 0) := by
  unfold bit
  cases i with
  | zero => rfl
  | succ i => simp [Nat.testBit_succ]

/-- The window holds what was taken. -/
def Inv (N : Nat) (f : Int) (T : Nat → Bool) (w : Win) : Prop :=
  (w.any = false ∧ w.last = 0 ∧ w.mask = 0 ∧ ∀ j, T j = false) ∨
  (w.any = true ∧ ∃ m, m < N ∧ T m = true ∧ w.last = (f + (m : Int)) % 65536 ∧ (∀ j, T j = true → j ≤ m) ∧ 0 ≤ w.mask ∧ w.mask < 4294967296 ∧ ∀ i, i < 32 → bit w.mask i = (decide (i < m) && T (m - 1 - i)))

def put (T : Nat → Bool) (k : Nat) : Nat → Bool := fun j => if j = k then true else T j

theorem has_inv {N : Nat} {f : Int} {T : Nat → Bool} {w : Win} (hN : N ≤ 33) (h : Inv N f T w) (k : Nat) (hk : k < N) : hasW w ((f + (k : Int)) % 65536) = T k := by
  rcases h with ⟨ha, _, _, h0⟩ | ⟨ha, m, hm, hT, hl, hle, hm0, hm1, hb⟩
  · unfold hasW; rw [ha, h0]; rfl
  · unfold hasW
    rw [hl, steps_near f m k (by omega) (by omega), ha]
    by_cases h1 : k = m
    · subst h1; rw [hT]; simp
    · by_cases h2 : k < m
      · have hi : (-((k : Int) - m) - 1).toNat = m - 1 - k := by omega
        rw [hi, hb _ (by omega), show m - 1 - (m - 1 - k) = k by omega]
        have e1 : decide ((k : Int) - m = 0) = false := by simp; omega
        have e2 : decide ((k : Int) - m < 0) = true := by simp; omega
        have e3 : decide (-32 ≤ (k : Int) - m) = true := by simp; omega
        have e4 : decide (m - 1 - k < m) = true := by simp; omega
        rw [e1, e2, e3, e4]; simp
      · have e1 : decide ((k : Int) - m = 0) = false := by simp; omega
        have e2 : decide ((k : Int) - m < 0) = false := by simp; omega
        rw [e1, e2]
        cases hTk : T k with
        | false => rfl
        | true => have := hle k hTk; omega

theorem take_inv {N : Nat} {f : Int} {T : Nat → Bool} {w : Win} (hN : N ≤ 1000) (h : Inv N f T w) (k : Nat) (hk : k < N) (x : Win) (ok : Bool) (he : takeW w ((f + (k : Int)) % 65536) = (x, ok)) :
    (T k = true → ok = false) ∧ (ok = false → x = w) ∧ (ok = true → hasW x ((f + (k : Int)) % 65536) = true) ∧ (w.any = true → 0 ≤ steps w.last x.last) ∧
      (if ok = true then Inv N f (put T k) x else Inv N f T x) ∧ (N ≤ 33 → ok = !(T k)) := by
  have hhas := fun hN => has_inv (N := N) hN h k hk
  have s0 : ∀ a : Int, steps (a % 65536) (a % 65536) = 0 := fun a => by unfold steps; split <;> omega
  rcases h with ⟨ha, hl0, hm0, h0⟩ | ⟨ha, m, hm, hT, hl, hle, hm0, hm1, hb⟩
  · unfold takeW at he
    rw [if_pos ha] at he
    obtain ⟨rfl, rfl⟩ := Prod.mk.inj he
    refine ⟨fun h => by rw [h0] at h; exact absurd h (by decide), fun h => absurd h (by decide), fun _ => ?_, fun h => by rw [ha] at h; exact absurd h (by decide), ?_, fun _ => by rw [h0]; rfl⟩
    · unfold hasW; simp only [s0]; rfl
    · rw [if_pos rfl]
      refine .inr ⟨rfl, k, hk, by simp [put], rfl, fun j hj => ?_, Int.le_refl _, by show (0 : Int) < 4294967296; decide, fun i hi => ?_⟩
      · unfold put at hj
        split at hj
        · omega
        · rw [h0] at hj; exact absurd hj (by decide)
      · have : put T k (k - 1 - i) = decide (k - 1 - i = k) := by
          unfold put; split
          · simp [*]
          · rw [h0]; simp [*]
        rw [this]
        have h3 : bit 0 i = false := by unfold bit; simp
        rw [h3]
        by_cases h4 : i < k
        · have : ¬ k - 1 - i = k := by omega
          simp [this]
        · simp [h4]
  · have hst : steps w.last ((f + (k : Int)) % 65536) = (k : Int) - m := by rw [hl]; exact steps_near f m k (by omega) (by omega)
    have hs2 : steps w.last w.last = 0 := by rw [hl]; exact s0 _
    unfold takeW at he
    rw [if_neg (by rw [ha]; decide), hst] at he
    by_cases h1 : m < k
    · rw [if_pos (by omega)] at he
      obtain ⟨rfl, rfl⟩ := Prod.mk.inj he
      have hTk : T k = false := by
        cases hTk : T k with
        | false => rfl
        | true => have := hle k hTk; omega
      refine ⟨fun h => by rw [hTk] at h; exact absurd h (by decide), fun h => absurd h (by decide), fun _ => ?_, fun _ => by rw [hst]; omega, ?_, fun _ => by rw [hTk]; rfl⟩
      · unfold hasW; simp only [s0]; rfl
      · rw [if_pos rfl]
        have ho := orI_range (shl32 w.mask ((k : Int) - m).toNat) (shl32 1 ((k : Int) - m - 1).toNat) (shl32_range _ _).2 (shl32_range _ _).2
        refine .inr ⟨rfl, k, hk, by simp [put], rfl, fun j hj => ?_, ho.1, ho.2, fun i hi => ?_⟩
        · unfold put at hj
          split at hj
          · omega
          · have := hle j hj; omega
        · show bit (orI _ _) i = _
          rw [bit_or, bit_shl _ _ _ hm0 hi, bit_shl _ _ _ (by decide) hi, bit_one]
          have hp : put T k (k - 1 - i) = T (k - 1 - i) ∨ ¬ i < k := by
            by_cases h4 : i < k
            · left; unfold put; rw [if_neg (by omega)]
            · right; exact h4
          by_cases h4 : i < k
          · rw [hp.resolve_right (fun h => h h4)]
            rw [decide_eq_true h4, Bool.true_and]
            by_cases h5 : k - m ≤ i
            · rw [hb _ (by omega)]
              have e1 : decide (((k : Int) - m).toNat ≤ i) = true := by simp; omega
              have e2 : decide (i - ((k : Int) - m - 1).toNat = 0) = false := by simp; omega
              rw [e1, e2]
              have e3 : i - ((k : Int) - m).toNat < m := by omega
              rw [decide_eq_true e3, show m - 1 - (i - ((k : Int) - m).toNat) = k - 1 - i by omega]
              simp
            · have e1 : decide (((k : Int) - m).toNat ≤ i) = false := by simp; omega
              rw [e1]
              by_cases h6 : i + 1 = k - m
              · have e2 : decide (((k : Int) - m - 1).toNat ≤ i) = true := by simp; omega
                have e3 : decide (i - ((k : Int) - m - 1).toNat = 0) = true := by simp; omega
                rw [e2, e3, show k - 1 - i = m by omega, hT]; rfl
              · have e2 : decide (((k : Int) - m - 1).toNat ≤ i) = false := by simp; omega
                rw [e2]
                cases hq : T (k - 1 - i) with
                | false => rfl
                | true => have := hle _ hq; omega
          · rw [decide_eq_false h4, Bool.false_and]
            have e1 : bit w.mask (i - ((k : Int) - m).toNat) = false ∨ ¬ (((k : Int) - m).toNat ≤ i) := by
              by_cases h5 : ((k : Int) - m).toNat ≤ i
              · left
                rw [hb _ (by omega)]
                have : ¬ i - ((k : Int) - m).toNat < m := by omega
                rw [decide_eq_false this]; rfl
              · right; exact h5
            have e2 : decide (i - ((k : Int) - m - 1).toNat = 0) = false := by simp; omega
            rw [e2]
            rcases e1 with e1 | e1
            · rw [e1]; simp
            · rw [decide_eq_false e1]; simp
    · rw [if_neg (by omega)] at he
      by_cases h2 : k = m
      · rw [if_pos (.inl (by omega))] at he
        obtain ⟨rfl, rfl⟩ := Prod.mk.inj he
        refine ⟨fun _ => rfl, fun _ => rfl, fun h => absurd h (by decide), fun _ => by rw [hs2]; exact Int.le_refl _, ?_, fun _ => by subst h2; rw [hT]; rfl⟩
        rw [if_neg (by decide)]
        exact .inr ⟨ha, m, hm, hT, hl, hle, hm0, hm1, hb⟩
      · by_cases h3 : (k : Int) - m < -32
        · rw [if_pos (.inr (.inl h3))] at he
          obtain ⟨rfl, rfl⟩ := Prod.mk.inj he
          refine ⟨fun _ => rfl, fun _ => rfl, fun h => absurd h (by decide), fun _ => by rw [hs2]; exact Int.le_refl _, ?_, fun hN => by omega⟩
          rw [if_neg (by decide)]
          exact .inr ⟨ha, m, hm, hT, hl, hle, hm0, hm1, hb⟩
        · have hi : (-((k : Int) - m) - 1).toNat = m - 1 - k := by omega
          have hbk : bit w.mask (m - 1 - k) = T k := by
            rw [hb _ (by omega), show m - 1 - (m - 1 - k) = k by omega, decide_eq_true (by omega)]; simp
          have hhk : hasW w ((f + (k : Int)) % 65536) = T k := by
            unfold hasW
            rw [hst, ha, hi, hbk]
            have e1 : decide ((k : Int) - m = 0) = false := by simp; omega
            have e2 : decide ((k : Int) - m < 0) = true := by simp; omega
            have e3 : decide (-32 ≤ (k : Int) - m) = true := by simp; omega
            rw [e1, e2, e3]; simp
          cases hTk : T k with
          | true =>
            rw [if_pos (.inr (.inr (hhk.trans hTk)))] at he
            obtain ⟨rfl, rfl⟩ := Prod.mk.inj he
            refine ⟨fun _ => rfl, fun _ => rfl, fun h => absurd h (by decide), fun _ => by rw [hs2]; exact Int.le_refl _, ?_, fun _ => rfl⟩
            rw [if_neg (by decide)]
            exact .inr ⟨ha, m, hm, hT, hl, hle, hm0, hm1, hb⟩
          | false =>
            rw [if_neg (by rw [hhk, hTk]; simp; omega)] at he
            obtain ⟨rfl, rfl⟩ := Prod.mk.inj he
            have ho := orI_range w.mask (shl32 1 (-((k : Int) - m) - 1).toNat) hm1 (shl32_range _ _).2
            have hbit : ∀ i, i < 32 → bit (orI w.mask (shl32 1 (-((k : Int) - m) - 1).toNat)) i = (decide (i < m) && put T k (m - 1 - i)) := fun i hi2 => by
              rw [bit_or, bit_shl _ _ _ (by decide) hi2, bit_one, hb i hi2, hi]
              unfold put
              by_cases h5 : i = m - 1 - k
              · have e1 : i < m := by omega
                have e2 : m - 1 - i = k := by omega
                rw [e2, hTk, decide_eq_true e1, if_pos rfl]
                have e3 : decide (m - 1 - k ≤ i) = true := by simp; omega
                have e4 : decide (i - (m - 1 - k) = 0) = true := by simp; omega
                rw [e3, e4]; rfl
              · have e4 : (decide (m - 1 - k ≤ i) && decide (i - (m - 1 - k) = 0)) = false := by
                  rw [Bool.and_eq_false_iff]
                  by_cases h6 : m - 1 - k ≤ i
                  · right; simp; omega
                  · left; simp; omega
                rw [e4, Bool.or_false]
                by_cases h6 : i < m
                · rw [if_neg (by omega)]
                · rw [decide_eq_false h6]; rfl
            refine ⟨fun h => absurd h (by decide), fun h => absurd h (by decide), fun _ => ?_, fun _ => by rw [hs2]; exact Int.le_refl _, ?_, fun _ => rfl⟩
            · unfold hasW
              simp only [hst, hi]
              rw [show bit (orI w.mask (shl32 1 (m - 1 - k))) (m - 1 - k) = true by
                have := hbit (m - 1 - k) (by omega)
                rw [hi] at this
                rw [this, decide_eq_true (by omega), show m - 1 - (m - 1 - k) = k by omega]
                simp [put]]
              have e2 : decide ((k : Int) - m < 0) = true := by simp; omega
              have e3 : decide (-32 ≤ (k : Int) - m) = true := by simp; omega
              rw [e2, e3]; simp
            · rw [if_pos rfl]
              refine .inr ⟨rfl, m, hm, by unfold put; rw [if_neg (by omega)]; exact hT, hl, fun j hj => ?_, ho.1, ho.2, hbit⟩
              unfold put at hj
              split at hj
              · omega
              · exact hle j hj

end Go.Proofs.Ytlhlkjllihbokaa.Ser
