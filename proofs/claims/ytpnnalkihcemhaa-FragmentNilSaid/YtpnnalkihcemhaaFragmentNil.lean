/- The law FragmentNil: no assembler takes nothing. For all bytes; no condition. Here: the walk. -/
import Derived.Test.YtpnnalkihcemhaaFragO
set_option linter.unusedVariables false
set_option linter.unusedSimpArgs false
namespace Go.Proofs.Ytpnnalkihcemhaa.Frag
open Go.Sort Go.RowKit Go.Deep Go.WideShapes Go.ChangeShapes Go.Proofs.Ytpnnalkihcemhaa.Mem Go.Proofs.Ytpnnalkihcemhaa.Open Go.Proofs.Ytpnnalkihcemhaa.Num Go.Proofs.Ytpnnalkihcemhaa.Wr Go.Proofs.Ytpnnalkihcemhaa.Step Go.Proofs.YtpnnalkihcemhaaW.PrintWords

set_option maxRecDepth 100000 in
theorem feed_nil (w : World) (v : Value) : Calls Try.prog 19 #[.pointer none, v] w fun e' w' => e' = .returned (.tuple #[.slice none 0 0, .bool false, .int .i64 6]) ∧ w' = w := by
  go_enter Try.func19, Try.ntmps19
  go_wp2_with fail
  first
    | exact bodyPost_ret (results_tmp3 rfl _ _ _) rfl ⟨rfl, rfl⟩
    | go_ret
      exact ⟨rfl, rfl⟩
theorem waits_nil (w : World) : Calls Try.prog 22 #[.pointer none] w fun e' w' => e' = .returned (.int .i64 0) ∧ w' = w := by
  go_enter Try.func22, Try.ntmps22
  go_wp2_with fail
  go_ret
  exact ⟨rfl, rfl⟩

set_option maxHeartbeats 1000000 in
theorem fragmentNil_core (w : World) (v : Value) (bs : List Int) (hv : Rd w v bs.length (nums .u8 bs)) :
    Calls Try.prog 7 #[v] w fun e' w' => e' = .returned (.bool true) ∧ Below w.heap.size w w' := by
  obtain ⟨A, c, rfl, hc, hm, hr⟩ := Rd.form hv (nums_length _ _)
  clear hr hm hv hc
  by_cases hbig : 1000 < bs.length
  · have tb : decide ((1000 : Int) < (bs.length : Int)) = true := by simp; omega
    clear hbig
    go_enter Try.func7, Try.ntmps7
    go_wp2_with fail
    refine (awake15 _).mono ?_
    rintro e' w1 ⟨rfl, h1⟩
    go_wp2_with fail
    refine (awake15 _).mono ?_
    rintro e' w3 ⟨rfl, h4⟩
    go_wp2_with fail
    go_ret
    exact ⟨rfl, h1.trans (h4.mono h1.size)⟩
  · have tb : decide ((1000 : Int) < (bs.length : Int)) = false := by simp; omega
    clear hbig
    go_enter Try.func7, Try.ntmps7
    go_wp2_with fail
    refine (awake15 _).mono ?_
    rintro e' w1 ⟨rfl, h1⟩
    go_wp2_with fail
    refine (feed_nil _ _).mono ?_
    rintro e' w2 ⟨rfl, rfl⟩
    go_wp2_with fail
    refine (waits_nil _).mono ?_
    rintro e' w3 ⟨rfl, rfl⟩
    go_wp2_with fail
    go_ret
    exact ⟨rfl, h1⟩

set_option maxRecDepth 100000 in
theorem fragmentNil (w : World) {H : Type} {enc : TypeId × Value → H} {base base' : Nat} {sp : Nat → Bool} {held : Bool} {d : DataW H} {ps : List MemPlace} {r : Reach} (v : Value)
    (hok : Value.okWide Try.prog w r base' 25 v) (h : DataW.Trod enc Try.prog w base sp held 25 v d ps) :
    Calls Try.prog 7 #[v] w fun e' w' => e' = .returned (.bool true) ∧ Below w.heap.size w w' := by
  obtain ⟨l, hv, hwf⟩ := open_bytes hok h
  exact fragmentNil_core w v l hv

end Go.Proofs.Ytpnnalkihcemhaa.Frag
