/- A number taken of bits that begin with it. -/
import Derived.Test.YtioogmicdonbpaaCmdB
import Derived.Test.YtioogmicdonbpaaTake
import Derived.Test.YtioogmicdonbpaaRSmall
set_option linter.unusedVariables false
set_option linter.unusedSimpArgs false
namespace Go.Proofs.Ytioogmicdonbpaa.Cmds
open Go.RowKit Go.Proofs.Ytioogmicdonbpaa.Mem Go.Proofs.Ytioogmicdonbpaa.Bits Go.Proofs.Ytioogmicdonbpaa.Open Go.Proofs.Ytioogmicdonbpaa.Wr

theorem rtakeB (W : World) (B : Nat) (w : World) (b : Nat) (e : TypeId) (BS : List Int) (at_ : Nat) (F : List Ent) (x : Int) (n : Nat) (rest : List Bool) (hw : HasR W B w b e BS at_ false F) (hb : bytesOk BS)
    (hn : n ≤ 64) (hx0 : 0 ≤ x) (hx : x < 2 ^ n) (hat : at_ ≤ 8 * BS.length) (hd : (bitsB BS).drop at_ = bitsOf x n ++ rest) :
    Calls Try.prog 25 #[.pointer (some ⟨b, 0, none⟩), .int .i64 (n : Int)] w fun e' w' => e' = .returned (.int .u64 x) ∧ HasR W B w' b e BS (at_ + n) false F := by
  have hl := congrArg List.length hd
  rw [List.length_drop, bitsB_length, List.length_append, bitsOf_length] at hl
  have := rtake W B w b e BS at_ F n hw hb (by omega) (by omega) (by omega)
  rw [hd, Int.toNat_natCast, List.take_append_of_le_length (by rw [bitsOf_length]; exact Nat.le_refl _), List.take_of_length_le (by rw [bitsOf_length]; exact Nat.le_refl _), val_bitsOf _ _ hx0, Int.emod_eq_of_lt hx0 hx] at this
  exact this

theorem drop_on {l : List Bool} {at_ : Nat} {x : Int} {n : Nat} {rest : List Bool} (hd : l.drop at_ = bitsOf x n ++ rest) : l.drop (at_ + n) = rest := by
  rw [← List.drop_drop, hd, List.drop_left' (bitsOf_length _ _)]

theorem at_on {BS : List Int} {at_ : Nat} {x : Int} {n : Nat} {rest : List Bool} (hat : at_ ≤ 8 * BS.length) (hd : (bitsB BS).drop at_ = bitsOf x n ++ rest) : at_ + n ≤ 8 * BS.length := by
  have hl := congrArg List.length hd
  rw [List.length_drop, bitsB_length, List.length_append, bitsOf_length] at hl
  omega

end Go.Proofs.Ytioogmicdonbpaa.Cmds
