/- An entity taken on a base, of bits that begin with what was put; plain parts, and a small number taken of bits that begin with it. -/
import Derived.Test.YtfcncmhcmbghpaaEPut
import Derived.Test.YtfcncmhcmbghpaaTake
import Derived.Test.YtfcncmhcmbghpaaRSmall
set_option linter.unusedVariables false
set_option linter.unusedSimpArgs false
namespace Go.Proofs.Ytfcncmhcmbghpaa.Ents
open Go.RowKit Go.Proofs.Ytfcncmhcmbghpaa.Mem Go.Proofs.Ytfcncmhcmbghpaa.Bits Go.Proofs.Ytfcncmhcmbghpaa.Open Go.Proofs.Ytfcncmhcmbghpaa.Wr Go.Proofs.Ytfcncmhcmbghpaa.Num

theorem rsmallB (W : World) (B : Nat) (w : World) (b : Nat) (e : TypeId) (BS : List Int) (at_ : Nat) (F : List Ent) (x : Int) (rest : List Bool) (hw : HasR W B w b e BS at_ false F) (hb : bytesOk BS)
    (hx0 : -9223372036854775808 ≤ x) (hx : x ≤ 9223372036854775807) (hat : at_ ≤ 8 * BS.length) (hd : (bitsB BS).drop at_ = smallB (zig x).toNat ++ rest) :
    Calls Try.prog 50 #[.pointer (some ⟨b, 0, none⟩)] w fun e' w' => e' = .returned (.int .i64 x) ∧ HasR W B w' b e BS (at_ + (smallB (zig x).toNat).length) false F := by
  have h := rsmallr W B w b e BS at_ F hw hb hat
  have hz := zig_range x hx0 hx
  have h8 := (smallB_len (zig x).toNat).1
  have hg : smallGives BS at_ = (x, at_ + (smallB (zig x).toNat).length, false) := by
    rw [gives_some (by rw [hd]; exact readS_put _ 0 rest (by omega) (by rw [Nat.pow_zero]; omega) (fun h => by omega)), unzig_zig]
    rw [show 8 * ((smallB (zig x).toNat).length / 8) = (smallB (zig x).toNat).length by omega]
  rw [hg] at h
  exact h

def mbit (bs e : Enty) (i : Nat) : Bool := decide (fi bs i ≠ fi e i)
theorem maskB_eq (bs e : Enty) (i : Nat) : maskB bs e i = [mbit bs e i] := by
  unfold maskB mbit
  by_cases h : fi bs i = fi e i
  · rw [if_pos h]; simp [bitsOf, h]
  · rw [if_neg h]; simp [bitsOf, h]
theorem mask_eq (bs e : Enty) : (List.range 6).flatMap (maskB bs e) = [mbit bs e 0, mbit bs e 1, mbit bs e 2, mbit bs e 3, mbit bs e 4, mbit bs e 5] := by
  rw [show List.range 6 = [0, 1, 2, 3, 4, 5] from rfl]
  simp [List.flatMap_cons, maskB_eq]
theorem val6 (b0 b1 b2 b3 b4 b5 : Bool) (k : Nat) (hk : k < 6) : val [b0, b1, b2, b3, b4, b5] / 2 ^ k % 2 = b01 ([b0, b1, b2, b3, b4, b5].getD k false) := by
  obtain rfl | rfl | rfl | rfl | rfl | rfl : k = 0 ∨ k = 1 ∨ k = 2 ∨ k = 3 ∨ k = 4 ∨ k = 5 := by omega
  all_goals
    cases b0 <;> cases b1 <;> cases b2 <;> cases b3 <;> cases b4 <;> cases b5 <;> rfl
def maskV (bs e : Enty) : Int := val ((List.range 6).flatMap (maskB bs e))
theorem maskV_range (bs e : Enty) : 0 ≤ maskV bs e ∧ maskV bs e < 64 := by
  have h := val_range ((List.range 6).flatMap (maskB bs e))
  rw [mask_len] at h
  exact h
theorem mask_test (bs e : Enty) (k : Nat) (hk : k < 6) : (bits .and .u64 (maskV bs e / 2 ^ k) 1 == 0) = decide (fi bs k = fi e k) := by
  have hr := maskV_range bs e
  have hs := shr_bound (maskV bs e) k hr.1
  rw [u64_and1 _ hs.1 (by omega)]
  unfold maskV
  rw [mask_eq, val6 _ _ _ _ _ _ k hk]
  have : [mbit bs e 0, mbit bs e 1, mbit bs e 2, mbit bs e 3, mbit bs e 4, mbit bs e 5].getD k false = mbit bs e k := by
    obtain rfl | rfl | rfl | rfl | rfl | rfl : k = 0 ∨ k = 1 ∨ k = 2 ∨ k = 3 ∨ k = 4 ∨ k = 5 := by omega
    all_goals rfl
  rw [this]
  unfold mbit
  by_cases h : fi bs k = fi e k
  · simp [h, b01]
  · simp [h, b01]

/-- The fields of a base of which the first k are the entity's. -/
def fl (bs e : Enty) (k : Nat) : List Value := (List.range 6).map fun j => .int .i64 (if j < k then fi e j else fi bs j)
theorem fl_zero (bs e : Enty) : fl bs e 0 = [.int .i64 bs.x, .int .i64 bs.y, .int .i64 bs.vx, .int .i64 bs.vy, .int .i64 bs.hp, .int .i64 bs.wt] := rfl
theorem fl_six (bs e : Enty) : fl bs e 6 = [.int .i64 e.x, .int .i64 e.y, .int .i64 e.vx, .int .i64 e.vy, .int .i64 e.hp, .int .i64 e.wt] := rfl
theorem fl_get (bs e : Enty) (k : Nat) (hk : k < 6) : (fl bs e k)[k]? = some (.int .i64 (fi bs k)) := by
  obtain rfl | rfl | rfl | rfl | rfl | rfl : k = 0 ∨ k = 1 ∨ k = 2 ∨ k = 3 ∨ k = 4 ∨ k = 5 := by omega
  all_goals rfl
theorem fl_set (bs e : Enty) (k : Nat) (hk : k < 6) : (fl bs e k).set k (.int .i64 (fi e k)) = fl bs e (k + 1) := by
  obtain rfl | rfl | rfl | rfl | rfl | rfl : k = 0 ∨ k = 1 ∨ k = 2 ∨ k = 3 ∨ k = 4 ∨ k = 5 := by omega
  all_goals rfl
theorem fl_same (bs e : Enty) (k : Nat) (hk : k < 6) (h : fi bs k = fi e k) : fl bs e (k + 1) = fl bs e k := by
  rw [← fl_set bs e k hk, ← h]
  obtain rfl | rfl | rfl | rfl | rfl | rfl : k = 0 ∨ k = 1 ∨ k = 2 ∨ k = 3 ∨ k = 4 ∨ k = 5 := by omega
  all_goals rfl
theorem fi_ok (e : Enty) (h : e.wf) (k : Nat) : -9223372036854775808 ≤ fi e k ∧ fi e k ≤ 9223372036854775807 := by
  unfold Enty.wf i64ok at h
  match k with
  | 0 => exact h.2.2.1
  | 1 => exact h.2.2.2.1
  | 2 => exact h.2.2.2.2.1
  | 3 => exact h.2.2.2.2.2.1
  | 4 => exact h.2.2.2.2.2.2.1
  | 5 => exact h.2.2.2.2.2.2.2
  | n + 6 => unfold fi; simp
theorem diff_back (a b : Int) (ha : -9223372036854775808 ≤ a ∧ a ≤ 9223372036854775807) (hb : -9223372036854775808 ≤ b ∧ b ≤ 9223372036854775807) : wrap64 (a + wrap64 (b - a)) = b ∧ (a ≠ b → wrap64 (b - a) ≠ 0) := by
  unfold wrap64
  constructor
  · omega
  · intro h; omega
def restB (bs e : Enty) (k : Nat) : List Bool := ((List.range 6).drop k).flatMap (diffB bs e)
theorem rest_zero (bs e : Enty) : restB bs e 0 = (List.range 6).flatMap (diffB bs e) := rfl
theorem rest_step (bs e : Enty) (k : Nat) (hk : k < 6) : restB bs e k = diffB bs e k ++ restB bs e (k + 1) := by
  obtain rfl | rfl | rfl | rfl | rfl | rfl : k = 0 ∨ k = 1 ∨ k = 2 ∨ k = 3 ∨ k = 4 ∨ k = 5 := by omega
  all_goals rfl
theorem rest_six (bs e : Enty) : restB bs e 6 = [] := rfl

end Go.Proofs.Ytfcncmhcmbghpaa.Ents
