/- The law FragmentWhole: its arguments opened. -/
import Derived.Test.YtpnnalkihcemhaaFragmentWhole
set_option linter.unusedVariables false
set_option linter.unusedSimpArgs false
namespace Go.Proofs.Ytpnnalkihcemhaa.Frag
open Go.Sort Go.RowKit Go.Deep Go.WideShapes Go.ChangeShapes Go.Proofs.Ytpnnalkihcemhaa.Mem Go.Proofs.Ytpnnalkihcemhaa.Bits Go.Proofs.Ytpnnalkihcemhaa.Open Go.Proofs.Ytpnnalkihcemhaa.Num Go.Proofs.Ytpnnalkihcemhaa.Wr Go.Proofs.Ytpnnalkihcemhaa.Step Go.Proofs.YtpnnalkihcemhaaW.PrintWords

set_option maxRecDepth 100000 in
theorem fragmentWhole (w : World) {H : Type} {enc : TypeId × Value → H} {base base' base2 base2' : Nat} {sp sp2 : Nat → Bool} {held held2 : Bool} {d d2 : DataW H} {ps ps2 : List MemPlace} {r r2 : Reach} (v0 : Value)
    (hok0 : Value.okWide Try.prog w r base' 53 v0) (h0 : DataW.Trod enc Try.prog w base sp held 53 v0 d ps) (v : Value)
    (hok : Value.okWide Try.prog w r2 base2' 54 v) (h : DataW.Trod enc Try.prog w base2 sp2 held2 54 v d2 ps2) :
    Calls Try.prog 6 #[v0, v] w fun e' w' => e' = .returned (.bool true) ∧ Below w.heap.size w w' := by
  obtain ⟨M, hM4, rfl, hMok⟩ := open_four hok0 h0
  obtain ⟨l, ⟨A, c, rfl, hc, hm, hr⟩, hwf⟩ := open_u16s hok h
  exact fragmentWhole_core w M hM4 hMok A c l hr hc hwf

end Go.Proofs.Ytpnnalkihcemhaa.Frag
