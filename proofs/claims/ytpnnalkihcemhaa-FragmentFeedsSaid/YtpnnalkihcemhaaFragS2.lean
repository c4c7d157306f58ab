/- A message parted, or refused. -/
import Derived.Test.YtpnnalkihcemhaaFragS
set_option linter.unusedVariables false
set_option linter.unusedSimpArgs false
namespace Go.Proofs.Ytpnnalkihcemhaa.Frag
open Go.Sort Go.RowKit Go.Proofs.Ytpnnalkihcemhaa.Mem Go.Proofs.Ytpnnalkihcemhaa.Bits Go.Proofs.Ytpnnalkihcemhaa.Wr Go.Proofs.Ytpnnalkihcemhaa.Num Go.Proofs.Ytpnnalkihcemhaa.Step Go.Proofs.YtpnnalkihcemhaaW.PrintWords

set_option maxHeartbeats 1000000 in
theorem fsplit (w : World) (idn : Int) (v : Value) (bs : List Int) (hi0 : 0 ≤ idn) (hi1 : idn < 65536) (hv : Rd w v bs.length (nums .u8 bs)) :
    Calls Try.prog 15 #[.int .u16 idn, v] w fun e' w' => ∃ v', e' = .returned (.tuple #[v', .int .i64 (errS bs)]) ∧ Below w.heap.size w w' ∧ RdS w' v' (partsOf idn bs) := by
  by_cases h0 : bs.length = 0
  · have he : errS bs = 1 := by unfold errS; rw [if_pos h0]
    have hp : partsOf idn bs = [] := partsOf_not (by omega)
    rw [he, hp]
    obtain ⟨A, c, rfl, hc, hm, hr⟩ := Rd.form hv (nums_length _ _)
    have tb : ((bs.length : Int) == 0) = true := beq_iff_eq.2 (by omega)
    clear hr hm hv h0 he hp
    go_enter Try.func15, Try.ntmps15
    go_wp2_with fail
    exact bodyPost_ret (results_tmp2 rfl _ _ _) rfl ⟨_, rfl, Below.refl _ _, RdS.nil _⟩
  · by_cases h4 : 4000 < bs.length
    · have he : errS bs = 3 := by unfold errS; rw [if_neg h0, if_pos h4]
      have hp : partsOf idn bs = [] := partsOf_not (by omega)
      rw [he, hp]
      obtain ⟨A, c, rfl, hc, hm, hr⟩ := Rd.form hv (nums_length _ _)
      have tb : ((bs.length : Int) == 0) = false := beq_eq_false_iff_ne.2 (by omega)
      have tb2 : decide ((4000 : Int) < (bs.length : Int)) = true := by simp; omega
      clear hr hm hv h0 he hp
      go_enter Try.func15, Try.ntmps15
      go_wp2_with fail
      exact bodyPost_ret (results_tmp2 rfl _ _ _) rfl ⟨_, rfl, Below.refl _ _, RdS.nil _⟩
    · have he : errS bs = 0 := by unfold errS; rw [if_neg h0, if_neg h4]
      rw [he, partsOf_ok he]
      exact fsplit_loop w idn v bs hi0 hi1 hv (by omega) (by omega)

end Go.Proofs.Ytpnnalkihcemhaa.Frag
