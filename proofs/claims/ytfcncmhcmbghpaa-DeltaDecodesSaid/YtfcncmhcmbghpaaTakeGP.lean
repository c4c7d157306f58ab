/- The steps of an entity's taking, of whatever bits; plain; and what Take of the reader gives, whatever comes. -/
import Derived.Test.YtfcncmhcmbghpaaDecP
set_option linter.unusedVariables false
set_option linter.unusedSimpArgs false
namespace Go.Proofs.Ytfcncmhcmbghpaa.Ents
open Go.Sort Go.RowKit Go.Proofs.Ytfcncmhcmbghpaa.Mem Go.Proofs.Ytfcncmhcmbghpaa.Bits Go.Proofs.Ytfcncmhcmbghpaa.Open Go.Proofs.Ytfcncmhcmbghpaa.Wr Go.Proofs.Ytfcncmhcmbghpaa.Num

theorem val_bit : ∀ (l : List Bool) (k : Nat), val l / 2 ^ k % 2 = b01 (l.getD k false)
  | [], k => by simp [val, b01]
  | b :: l, 0 => by
    simp only [val, Int.pow_zero, Int.ediv_one, List.getD_cons_zero]
    cases b <;> simp [b01] <;> omega
  | b :: l, k + 1 => by
    rw [List.getD_cons_succ, ← val_bit l k, Int.pow_succ, Int.mul_comm (2 ^ k) 2, ← Int.ediv_ediv_of_nonneg (by decide)]
    congr 2
    simp only [val]
    cases b <;> simp [b01] <;> omega

theorem bit_test (l : List Bool) (k : Nat) (h : l.length ≤ 16) : (bits .and .u64 (val l / 2 ^ k) 1 == 0) = !(l.getD k false) := by
  have hr := val_range l
  have h16 : (2 : Int) ^ l.length ≤ 2 ^ 16 := by exact_mod_cast Nat.pow_le_pow_right (by decide) h
  have e16 : (2 : Int) ^ 16 = 65536 := by decide
  have hs := shr_bound (val l) k hr.1
  rw [u64_and1 _ hs.1 (by omega), val_bit]
  cases l.getD k false <;> rfl

/-- A number of n bits is asked for, at most 16, of a reader that has not failed: what comes. -/
theorem rtake_any (W : World) (B : Nat) (w : World) (b : Nat) (t : TypeId) (bs : List Int) (at_ : Nat) (F : List Ent) (n : Nat) (hw : HasR W B w b t bs at_ false F) (hb : bytesOk bs) (hat : at_ ≤ 8 * bs.length) (hn : n ≤ 16) :
    Calls Try.prog 49 #[.pointer (some ⟨b, 0, none⟩), .int .i64 (n : Int)] w fun e' w' => ∃ (mk : List Bool) (a : Nat) (fl : Bool), e' = .returned (.int .u64 (val mk)) ∧ HasR W B w' b t bs a fl F ∧ mk.length = n ∧ a ≤ 8 * bs.length ∧
      ((fl = false ∧ at_ + n ≤ 8 * bs.length ∧ mk = ((bitsB bs).drop at_).take n ∧ a = at_ + n) ∨ (fl = true ∧ mk = List.replicate n false ∧ 8 * bs.length < at_ + n)) := by
  by_cases h : at_ + n ≤ 8 * bs.length
  · refine (rtake W B w b t bs at_ F (n : Int) hw hb (by omega) (by omega) (by omega)).mono ?_
    rintro e' w' ⟨h1, h2⟩
    rw [Int.toNat_natCast] at h1 h2
    exact ⟨_, _, _, h1, h2, by rw [List.length_take, List.length_drop, bitsB_length]; omega, h, .inl ⟨rfl, h, rfl, rfl⟩⟩
  · refine (rtake_not W B w b t bs at_ false F (n : Int) hw hb hat (by omega)).mono ?_
    rintro e' w' ⟨h1, h2⟩
    exact ⟨List.replicate n false, _, _, by rw [val_replicate]; exact h1, h2, by simp, hat, .inr ⟨rfl, rfl, by omega⟩⟩

/-- Of a taking that gives T the fields 'done' are read, of n bits; the others, of which the mask is mk, come of the bits l. -/
def TG (T : Option (List Int × Nat)) (mk : List Bool) (f : List Int) (l : List Bool) (done : List Int) (n : Nat) : Prop := T = (takeGo mk f l).map fun p => (done ++ p.1, n + p.2)

theorem tg_start (mk : List Bool) (f : List Int) (l : List Bool) : TG (takeGo mk f l) mk f l [] 0 := by
  unfold TG
  cases takeGo mk f l <;> simp
theorem tg_skip {T : Option (List Int × Nat)} {mk : List Bool} {x : Int} {f : List Int} {l : List Bool} {done : List Int} {n : Nat} (h : TG T (false :: mk) (x :: f) l done n) : TG T mk f l (done ++ [x]) n := by
  unfold TG at *
  rw [h]
  simp only [takeGo, Bool.false_eq_true, if_false]
  cases takeGo mk f l <;> simp
theorem tg_next {T : Option (List Int × Nat)} {mk : List Bool} {x : Int} {f : List Int} {l : List Bool} {done : List Int} {n u k : Nat} (hr : readS 0 l = some (u, k)) (h0 : unzig u ≠ 0) (h : TG T (true :: mk) (x :: f) l done n) : TG T mk f (l.drop (8 * k)) (done ++ [wrap64 (x + unzig u)]) (n + 8 * k) := by
  unfold TG at *
  rw [h]
  simp only [takeGo, if_true, hr, h0, if_false]
  cases takeGo mk f (l.drop (8 * k)) <;> simp [Nat.add_assoc]
theorem tg_none {T : Option (List Int × Nat)} {mk : List Bool} {x : Int} {f : List Int} {l : List Bool} {done : List Int} {n : Nat} (hr : readS 0 l = none) (h : TG T (true :: mk) (x :: f) l done n) : T = none := by
  unfold TG at h
  rw [h]
  simp only [takeGo, if_true, hr, Option.map_none]
theorem tg_zero {T : Option (List Int × Nat)} {mk : List Bool} {x : Int} {f : List Int} {l : List Bool} {done : List Int} {n u k : Nat} (hr : readS 0 l = some (u, k)) (h0 : unzig u = 0) (h : TG T (true :: mk) (x :: f) l done n) : T = none := by
  unfold TG at h
  rw [h]
  simp only [takeGo, if_true, hr, h0, if_true, Option.map_none]
theorem tg_end {T : Option (List Int × Nat)} {l : List Bool} {done : List Int} {n : Nat} (h : TG T [] [] l done n) : T = some (done, n) := by
  unfold TG at h
  rw [h]
  simp [takeGo]

theorem takeE_short {bs : Enty} {l : List Bool} (h : l.length < 6) : takeE bs l = none := by unfold takeE; rw [if_pos h]
theorem takeE_bad {bs : Enty} {l : List Bool} (h : takeGo (l.take 6) (fiL bs) (l.drop 6) = none) : takeE bs l = none := by
  unfold takeE
  rw [h]
  split <;> rfl
theorem takeE_end {bs : Enty} {l : List Bool} {f : List Int} {n : Nat} (h6 : 6 ≤ l.length) (h : takeGo (l.take 6) (fiL bs) (l.drop 6) = some (f, n)) : takeE bs l = if EFrm (withL bs f) then some (withL bs f, 6 + n) else none := by
  unfold takeE
  rw [if_neg (by omega), h]

theorem getD_at (l : List Bool) (k : Nat) (h : k < l.length) : l.drop k = l.getD k false :: l.drop (k + 1) := by
  rw [List.getD_eq_getElem?_getD, List.getElem?_eq_getElem h, Option.getD_some, List.drop_eq_getElem_cons h]
theorem fiL_at (bs : Enty) (k : Nat) (h : k < 6) : (fiL bs).drop k = fi bs k :: (fiL bs).drop (k + 1) := by
  obtain rfl | rfl | rfl | rfl | rfl | rfl : k = 0 ∨ k = 1 ∨ k = 2 ∨ k = 3 ∨ k = 4 ∨ k = 5 := by omega
  all_goals rfl

def i64s (l : List Int) : List Value := l.map (.int .i64)
theorem i64s_get (d : List Int) (x : Int) (r : List Int) : (i64s (d ++ x :: r))[d.length]? = some (.int .i64 x) := by
  unfold i64s
  rw [List.getElem?_map, List.getElem?_append_right (Nat.le_refl _), Nat.sub_self]
  rfl
theorem i64s_set (d : List Int) (x y : Int) (r : List Int) : (i64s (d ++ x :: r)).set d.length (.int .i64 y) = i64s ((d ++ [y]) ++ r) := by
  unfold i64s
  rw [List.map_append, List.set_append_right _ _ (by rw [List.length_map]; exact Nat.le_refl _), List.length_map, Nat.sub_self]
  simp
theorem i64s_skip (d : List Int) (x : Int) (r : List Int) : i64s (d ++ x :: r) = i64s ((d ++ [x]) ++ r) := by simp
theorem six_of {d : List Int} (h : d.length = 6) : ∃ a b c e f g, d = [a, b, c, e, f, g] := by
  match d, h with
  | [a, b, c, e, f, g], _ => exact ⟨a, b, c, e, f, g, rfl⟩
theorem drop_pos {bs : List Int} {a n k : Nat} : ((bitsB bs).drop a).drop (n + 8 * k) = (((bitsB bs).drop a).drop n).drop (8 * k) := by rw [List.drop_drop, List.drop_drop, List.drop_drop]

end Go.Proofs.Ytfcncmhcmbghpaa.Ents
