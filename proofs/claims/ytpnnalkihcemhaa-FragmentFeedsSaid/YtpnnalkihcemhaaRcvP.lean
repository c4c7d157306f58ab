/- What a receiver of lines reads; plain. And one Take, whatever the reader's state. -/
import Derived.Test.YtpnnalkihcemhaaStrPut
import Derived.Test.YtpnnalkihcemhaaTake
import Derived.Laws.BytesArg
set_option linter.unusedVariables false
set_option linter.unusedSimpArgs false
namespace Go.Proofs.Ytpnnalkihcemhaa.Str
open Go.Sort Go.RowKit Go.Proofs.Ytpnnalkihcemhaa.Mem Go.Proofs.Ytpnnalkihcemhaa.Bits Go.Proofs.Ytpnnalkihcemhaa.Wr Go.Proofs.Ytpnnalkihcemhaa.Num Go.Proofs.Ytpnnalkihcemhaa.Step Go.Proofs.YtpnnalkihcemhaaW.PrintWords

/-- The k bytes of bits. -/
def chars (k : Nat) (b : List Bool) : List Int := (List.range k).map fun j => val ((b.drop (8 * j)).take 8)
theorem chars_length (k : Nat) (b : List Bool) : (chars k b).length = k := by simp [chars]
theorem chars_succ (k : Nat) (b : List Bool) : chars (k + 1) b = chars k b ++ [val ((b.drop (8 * k)).take 8)] := by
  unfold chars
  rw [List.range_succ, List.map_append]
  rfl

def takeLines : Nat → List Bool → Option (List ByteArray)
  | 0, _ => some []
  | n + 1, b =>
    if b.length < 6 then none
    else if (val (b.take 6)).toNat < 1 ∨ 60 < (val (b.take 6)).toNat then none
    else if b.length < 6 + 8 * (val (b.take 6)).toNat then none
    else (takeLines n (b.drop (6 + 8 * (val (b.take 6)).toNat))).map fun ls => strOfNums (chars (val (b.take 6)).toNat (b.drop 6)) :: ls

def linesOf (n : Nat) (B : List Bool) : Option (List ByteArray) := if B.length < 35 then none else takeLines n (B.drop 35)

def recv (given : Int) (B : List Bool) : List ByteArray × Bool × Int :=
  if B.length < 3 then ([], false, given)
  else if (val (B.take 3)).toNat = 0 then ([], true, given)
  else match linesOf (val (B.take 3)).toNat B with
    | none => ([], false, given)
    | some ls =>
      if val ((B.drop 3).take 32) = 0 then ([], false, given)
      else if given + 1 < val ((B.drop 3).take 32) ∨ val ((B.drop 3).take 32) + ((val (B.take 3)).toNat : Int) ≤ given + 1 then ([], true, given)
      else (ls.drop (given + 1 - val ((B.drop 3).take 32)).toNat, true, given + ((val (B.take 3)).toNat : Int) - (given + 1 - val ((B.drop 3).take 32)))

theorem takeLines_length : ∀ (n : Nat) (b : List Bool) (ls : List ByteArray), takeLines n b = some ls → ls.length = n
  | 0, b, ls, h => by simp [takeLines] at h; subst h; rfl
  | n + 1, b, ls, h => by
    unfold takeLines at h
    split at h
    · cases h
    · split at h
      · cases h
      · split at h
        · cases h
        · obtain ⟨ls', h1, rfl⟩ := Option.map_eq_some_iff.1 h
          simp [takeLines_length n _ _ h1]

/-- Take, whatever the reader's state. -/
theorem rtake_any (W : World) (B : Nat) (w : World) (b : Nat) (e : TypeId) (bs : List Int) (at_ : Nat) (fl : Bool) (F : List Ent) (m : Nat) (hw : HasR W B w b e bs at_ fl F) (hb : bytesOk bs) (hat : at_ ≤ 8 * bs.length) (hm : m ≤ 64) :
    Calls Try.prog 44 #[.pointer (some ⟨b, 0, none⟩), .int .i64 (m : Int)] w fun e' w' => ∃ (x : Nat) (at' : Nat) (fl' : Bool), e' = .returned (.int .u64 (x : Int)) ∧ HasR W B w' b e bs at' fl' F ∧ at' ≤ 8 * bs.length ∧ x < 2 ^ m ∧
      ((fl' = false ∧ fl = false ∧ at' = at_ + m ∧ (x : Int) = val (((bitsB bs).drop at_).take m)) ∨ (fl' = true ∧ x = 0 ∧ (fl = true ∨ 8 * bs.length < at_ + m))) := by
  by_cases h : fl = false ∧ at_ + m ≤ 8 * bs.length
  · obtain ⟨rfl, hle⟩ := h
    refine (rtake W B w b e bs at_ F (m : Int) hw hb (by omega) (by omega) (by omega)).mono ?_
    rintro e' w' ⟨rfl, h1⟩
    rw [Int.toNat_natCast] at h1 ⊢
    have hr := val_take_range ((bitsB bs).drop at_) m
    refine ⟨(val (((bitsB bs).drop at_).take m)).toNat, _, false, ?_, h1, hle, ?_, .inl ⟨rfl, rfl, rfl, by omega⟩⟩
    · rw [show (((val (((bitsB bs).drop at_).take m)).toNat : Nat) : Int) = val (((bitsB bs).drop at_).take m) by omega]
    · have h2 : ((2 ^ m : Nat) : Int) = 2 ^ m := by simp
      omega
  · refine (rtake_not W B w b e bs at_ fl F (m : Int) hw hb hat ?_).mono ?_
    · cases fl with
      | true => exact .inl rfl
      | false =>
        right; right; right
        have : ¬ at_ + m ≤ 8 * bs.length := fun h' => h ⟨rfl, h'⟩
        omega
    · rintro e' w' ⟨rfl, h1⟩
      refine ⟨0, at_, true, rfl, h1, hat, Nat.pow_pos (by decide), .inr ⟨rfl, rfl, ?_⟩⟩
      cases fl with
      | true => exact .inl rfl
      | false =>
        right
        have : ¬ at_ + m ≤ 8 * bs.length := fun h' => h ⟨rfl, h'⟩
        omega

/-- How far the reading of the n lines has come: i of them are there, and the rest is read on; or it failed. -/
def Got (n : Nat) (Bt : List Bool) (i : Nat) (acc : List ByteArray) (at_ : Nat) (fl : Bool) : Prop :=
  acc.length = i ∧ ((fl = false ∧ linesOf n Bt = (takeLines (n - i) (Bt.drop at_)).map (acc ++ ·)) ∨ (fl = true ∧ linesOf n Bt = none))

theorem Got.start {n : Nat} {Bt : List Bool} {fl : Bool} {at_ : Nat} (h : (fl = false ∧ at_ = 35 ∧ 35 ≤ Bt.length) ∨ (fl = true ∧ Bt.length < 35)) : Got n Bt 0 [] at_ fl := by
  refine ⟨rfl, ?_⟩
  rcases h with ⟨h1, rfl, h3⟩ | ⟨h1, h2⟩
  · left
    refine ⟨h1, ?_⟩
    unfold linesOf
    rw [if_neg (by omega)]
    simp
  · right
    exact ⟨h1, by unfold linesOf; rw [if_pos h2]⟩

/-- No length, or none that is a line's. -/
theorem Got.bad {n : Nat} {Bt : List Bool} {i : Nat} {acc : List ByteArray} {at_ k : Nat} {fl fl' : Bool} (h : Got n Bt i acc at_ fl) (hi : i < n) (hk : ¬ (1 ≤ k ∧ k ≤ 60))
    (ht : (fl' = false ∧ fl = false ∧ (k : Int) = val ((Bt.drop at_).take 6)) ∨ (fl' = true ∧ k = 0 ∧ (fl = true ∨ Bt.length < at_ + 6))) (hat : at_ ≤ Bt.length) : linesOf n Bt = none := by
  rcases h.2 with ⟨h1, h2⟩ | ⟨h1, h2⟩
  · rw [h2, show n - i = (n - i - 1) + 1 by omega, takeLines]
    rcases ht with ⟨_, _, h3⟩ | ⟨_, _, h3⟩
    · have e : (val ((Bt.drop at_).take 6)).toNat = k := by omega
      rw [e]
      split
      · rfl
      · rw [if_pos (by omega)]; rfl
    · rcases h3 with h3 | h3
      · rw [h1] at h3; cases h3
      · rw [if_pos (by rw [List.length_drop]; omega)]; rfl
  · exact h2

/-- A line more. -/
theorem Got.next {n : Nat} {Bt : List Bool} {i : Nat} {acc : List ByteArray} {at_ k at2 : Nat} {fl fl' fl2 : Bool} {ys : List Int} (h : Got n Bt i acc at_ fl) (hi : i < n) (hk : 1 ≤ k ∧ k ≤ 60)
    (ht : fl' = false ∧ fl = false ∧ (k : Int) = val ((Bt.drop at_).take 6) ∧ at_ + 6 ≤ Bt.length) (hat : at2 ≤ Bt.length) (hc : (fl2 = false ∧ at2 = at_ + 6 + 8 * k ∧ ys = chars k (Bt.drop (at_ + 6))) ∨ (fl2 = true ∧ Bt.length < at_ + 6 + 8 * k)) :
    Got n Bt (i + 1) (acc ++ [strOfNums ys]) at2 fl2 := by
  refine ⟨by simp [h.1], ?_⟩
  obtain ⟨_, hf, hv, h6⟩ := ht
  rcases h.2 with ⟨h1, h2⟩ | ⟨h1, h2⟩
  · have e : (val ((Bt.drop at_).take 6)).toNat = k := by omega
    rw [h2, show n - i = (n - (i + 1)) + 1 by omega, takeLines, e, if_neg (by rw [List.length_drop]; omega), if_neg (by omega)]
    rcases hc with ⟨h3, rfl, rfl⟩ | ⟨h3, h4⟩
    · left
      refine ⟨h3, ?_⟩
      rw [if_neg (by rw [List.length_drop]; omega), List.drop_drop, List.drop_drop, Option.map_map]
      have ea : at_ + 6 + 8 * k = at_ + (6 + 8 * k) := by omega
      rw [ea]
      congr 1
      funext ls
      simp
    · right
      refine ⟨h3, ?_⟩
      rw [if_pos (by rw [List.length_drop]; omega)]
      rfl
  · rw [hf] at h1; cases h1

theorem Got.done {n : Nat} {Bt : List Bool} {acc : List ByteArray} {at_ : Nat} {fl : Bool} (h : Got n Bt n acc at_ fl) : (fl = false ∧ linesOf n Bt = some acc) ∨ (fl = true ∧ linesOf n Bt = none) := by
  rcases h.2 with ⟨h1, h2⟩ | h2
  · left
    refine ⟨h1, ?_⟩
    rw [h2, Nat.sub_self, takeLines]
    simp
  · exact .inr h2

end Go.Proofs.Ytpnnalkihcemhaa.Str
