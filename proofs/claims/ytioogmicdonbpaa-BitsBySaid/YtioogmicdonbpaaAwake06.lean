/- The fixed fact that the laws of bits ask first. -/
import Derived.Test.YtioogmicdonbpaaWr
set_option linter.unusedVariables false
set_option linter.unusedSimpArgs false
namespace Go.Proofs.Ytioogmicdonbpaa.Wr
open Go.RowKit Go.Proofs.Ytioogmicdonbpaa.Mem Go.Proofs.Ytioogmicdonbpaa.Bits Go.Proofs.Ytioogmicdonbpaa.Num Go.Proofs.YtioogmicdonbpaaW.PrintWords

set_option maxHeartbeats 1000000 in
theorem awake06 (W : World) (B : Nat) (w : World) (F : List Ent) (hH : Holds W B w F) :
    Calls Try.prog 29 #[] w fun e' w' => e' = .returned (.bool true) ∧ Holds W B w' F := by
  have HF := Lib.hid (fresh hH 33)
  go_enter Try.func29, Try.ntmps29
  go_wp2_with fail
  refine (put W B _ _ 33 [] F 5 3 HF.out (by decide) (by decide) (by decide) (by decide) (by decide)).mono ?_
  rintro e' w1 ⟨rfl, h1⟩
  go_wp2_with fail
  refine (count W B _ _ 33 _ F h1).mono ?_
  rintro e' w2 ⟨rfl, rfl⟩
  have e3 : (((([] : List Bool) ++ bitsOf 5 (Int.toNat 3)).length : Int)) = 3 := by decide
  rw [e3]
  go_wp2_with fail
  refine (bytes W B _ _ 33 _ F h1 (by decide)).mono ?_
  rintro e' w2 ⟨v', rfl, v, h2⟩
  have h3 := h2.tail.tail
  obtain ⟨A, c, rfl⟩ := h3.slice
  have e1 : nby (([] : List Bool) ++ bitsOf 5 (Int.toNat 3)) = 1 := by decide
  rw [e1]
  go_wp2
  go_ret
  exact ⟨rfl, h3.tail⟩

end Go.Proofs.Ytioogmicdonbpaa.Wr
