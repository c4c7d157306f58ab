/- One Take, whatever the reader's state. -/
import Derived.Test.YtpnnalkihcemhaaReadS
import Derived.Test.YtpnnalkihcemhaaTake
import Derived.Test.YtpnnalkihcemhaaStep
import Derived.Laws.BytesArg
set_option linter.unusedVariables false
set_option linter.unusedSimpArgs false
namespace Go.Proofs.Ytpnnalkihcemhaa.Wr
open Go.RowKit Go.Proofs.Ytpnnalkihcemhaa.Mem Go.Proofs.Ytpnnalkihcemhaa.Bits Go.Proofs.Ytpnnalkihcemhaa.Wr Go.Proofs.Ytpnnalkihcemhaa.Num Go.Proofs.Ytpnnalkihcemhaa.Step Go.Proofs.YtpnnalkihcemhaaW.PrintWords

/-- Take, whatever the reader's state. -/
theorem rtake_any (W : World) (B : Nat) (w : World) (b : Nat) (e : TypeId) (bs : List Int) (at_ : Nat) (fl : Bool) (F : List Ent) (m : Nat) (hw : HasR W B w b e bs at_ fl F) (hb : bytesOk bs) (hat : at_ ≤ 8 * bs.length) (hm : m ≤ 64) :
    Calls Try.prog 44 #[.pointer (some ⟨b, 0, none⟩), .int .i64 (m : Int)] w fun e' w' => ∃ (x : Nat) (at' : Nat) (fl' : Bool), e' = .returned (.int .u64 (x : Int)) ∧ HasR W B w' b e bs at' fl' F ∧ at' ≤ 8 * bs.length ∧ x < 2 ^ m ∧
      ((fl' = false ∧ fl = false ∧ at' = at_ + m ∧ (x : Int) = val (((bitsB bs).drop at_).take m)) ∨ (fl' = true ∧ x = 0 ∧ (fl = true ∨ 8 * bs.length < at_ + m))) := by
  by_cases h : fl = false ∧ at_ + m ≤ 8 * bs.length
  · obtain ⟨rfl, hle⟩ := h
    refine (rtake W B w b e bs at_ F (m : Int) hw hb (by omega) (by omega) (by omega)).mono ?_
    rintro e' w' ⟨rfl, h1⟩
    rw [Int.toNat_natCast] at h1 ⊢
    have hr := val_take_range ((bitsB bs).drop at_) m
    refine ⟨(val (((bitsB bs).drop at_).take m)).toNat, _, false, ?_, h1, hle, ?_, .inl ⟨rfl, rfl, rfl, by omega⟩⟩
    · rw [show (((val (((bitsB bs).drop at_).take m)).toNat : Nat) : Int) = val (((bitsB bs).drop at_).take m) by omega]
    · have h2 : ((2 ^ m : Nat) : Int) = 2 ^ m := by simp
      omega
  · refine (rtake_not W B w b e bs at_ fl F (m : Int) hw hb hat ?_).mono ?_
    · cases fl with
      | true => exact .inl rfl
      | false =>
        right; right; right
        have : ¬ at_ + m ≤ 8 * bs.length := fun h' => h ⟨rfl, h'⟩
        omega
    · rintro e' w' ⟨rfl, h1⟩
      refine ⟨0, at_, true, rfl, h1, hat, Nat.pow_pos (by decide), .inr ⟨rfl, rfl, ?_⟩⟩
      cases fl with
      | true => exact .inl rfl
      | false =>
        right
        have : ¬ at_ + m ≤ 8 * bs.length := fun h' => h ⟨rfl, h'⟩
        omega

end Go.Proofs.Ytpnnalkihcemhaa.Wr
