/- The law ChannelNil: no channel does nothing. For all headers; no condition. Here: the walk. -/
import Derived.Test.YtlhlkjllihbokaaChOpen
set_option linter.unusedVariables false
set_option linter.unusedSimpArgs false
namespace Go.Proofs.Ytlhlkjllihbokaa.Chan
open Go.Sort Go.RowKit Go.Deep Go.WideShapes Go.ChangeShapes Go.Proofs.Ytlhlkjllihbokaa.Mem Go.Proofs.Ytlhlkjllihbokaa.Open Go.Proofs.Ytlhlkjllihbokaa.Num Go.Proofs.Ytlhlkjllihbokaa.Step Go.Proofs.Ytlhlkjllihbokaa.Ser

theorem hdr_flat : flat Try.prog 3 56 = some [.int .u16, .bool, .int .u16, .int .u32] := by kernel_rfl
def HdrOk (n a m : Int) : Prop := 0 ≤ n ∧ n < 65536 ∧ 0 ≤ a ∧ a < 65536 ∧ 0 ≤ m ∧ m < 4294967296

set_option maxRecDepth 100000 in
theorem open_hdr {H : Type} {enc : TypeId × Value → H} {W : World} {base base' : Nat} {sp : Nat → Bool} {held : Bool} {v : Value} {d : DataW H} {ps : List MemPlace} {r : Reach}
    (hok : Value.okWide Try.prog W r base' 56 v) (h : DataW.Trod enc Try.prog W base sp held 56 v d ps) :
    ∃ (n : Int) (any : Bool) (a m : Int), v = .agg #[.int .u16 n, .bool any, .int .u16 a, .int .u32 m] ∧ HdrOk n a m := by
  obtain ⟨cs, rfl, hs⟩ := okWide_struct Try.underlying56 hok
  obtain ⟨fuel, hf⟩ := h
  have h0 := flat_ok 3 _ _ _ _ _ hdr_flat hf
  obtain ⟨n1, c1, hc1, w1, h1⟩ := h0.int_inv
  obtain ⟨b2, c2, rfl, h2⟩ := h1.bool_inv
  obtain ⟨n3, c3, rfl, w3, h3⟩ := h2.int_inv
  obtain ⟨n4, c4, rfl, w4, h4⟩ := h3.int_inv
  obtain rfl := h4.nil_inv
  refine ⟨n1, b2, n3, n4, ?_, ?_⟩
  · have : cs.toList = [.int .u16 n1, .bool b2, .int .u16 n3, .int .u32 n4] := by simpa [Value.cells] using hc1
    rw [← Array.toArray_toList (xs := cs), this]
  · simp [Lit.wf, IntKind.min, IntKind.max, IntKind.signed, IntKind.bits] at w1 w3 w4
    unfold HdrOk
    omega

set_option maxRecDepth 100000 in
set_option maxHeartbeats 1000000 in
theorem channelNil_core (w : World) (n a m : Int) (any : Bool) :
    Calls Try.prog 11 #[.agg #[.int .u16 n, .bool any, .int .u16 a, .int .u32 m]] w fun e' w' => e' = .returned (.bool true) ∧ Below w.heap.size w w' := by
  have hfa := field_any
  have hb0 : Below w.heap.size w (w.alloc (.cells #[.int .u16 n, .bool any, .int .u16 a, .int .u32 m] 56)) := (Below.refl _ _).alloc (Nat.le_refl _) _
  have HB0 := Lib.hid hb0
  clear hb0
  go_enter Try.func11, Try.ntmps11
  go_wp2_with fail
  refine (take_nil _ _ _ _ _).mono ?_
  rintro e' w1 ⟨rfl, h1⟩
  have HB1 := Lib.hid (HB0.out.trans (h1.mono HB0.out.size))
  clear h1 HB0
  go_wp2_with fail
  refine (awake14 _).mono ?_
  rintro e' w2 ⟨rfl, h2⟩
  have HB2 := Lib.hid (HB1.out.trans (h2.mono HB1.out.size))
  clear h2 HB1
  go_wp2_with fail
  refine (send_nil _).mono ?_
  rintro e' w3 ⟨rfl, h3⟩
  have HB3 := Lib.hid (HB2.out.trans (h3.mono HB2.out.size))
  clear h3 HB2
  go_wp2_with fail
  refine (open_nil _).mono ?_
  rintro e' w4 ⟨rfl, rfl⟩
  go_wp2_with fail
  refine (window_nil _).mono ?_
  rintro e' w5 ⟨rfl, h5⟩
  have HB5 := Lib.hid (HB3.out.trans (h5.mono HB3.out.size))
  clear h5 HB3
  go_wp2_with fail
  go_ret
  exact ⟨rfl, HB5.out⟩

set_option maxRecDepth 100000 in
theorem channelNil (w : World) {H : Type} {enc : TypeId × Value → H} {base base' : Nat} {sp : Nat → Bool} {held : Bool} {d : DataW H} {ps : List MemPlace} {r : Reach} (v : Value)
    (hok : Value.okWide Try.prog w r base' 56 v) (h : DataW.Trod enc Try.prog w base sp held 56 v d ps) :
    Calls Try.prog 11 #[v] w fun e' w' => e' = .returned (.bool true) ∧ Below w.heap.size w w' := by
  obtain ⟨n, any, a, m, rfl, _⟩ := open_hdr hok h
  exact channelNil_core w n a m any

end Go.Proofs.Ytlhlkjllihbokaa.Chan
