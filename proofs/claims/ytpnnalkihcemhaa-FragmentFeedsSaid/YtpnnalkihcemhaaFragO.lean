/- Messages and bytes as arguments. -/
import Derived.Test.YtpnnalkihcemhaaFragA
import Derived.Test.YtpnnalkihcemhaaOpen
set_option linter.unusedVariables false
set_option linter.unusedSimpArgs false
namespace Go.Proofs.Ytpnnalkihcemhaa.Frag
open Go.RowKit Go.Deep Go.WideShapes Go.ChangeShapes Go.Proofs.Ytpnnalkihcemhaa.Mem Go.Proofs.Ytpnnalkihcemhaa.Open Go.Proofs.Ytpnnalkihcemhaa.Num Go.Proofs.Ytpnnalkihcemhaa.Wr Go.Proofs.YtpnnalkihcemhaaW.PrintWords

theorem msg_flat : flat Try.prog 3 24 = some [.int .u16, .int .u16, .int .u8] := by kernel_rfl
theorem byte_size : Try.prog.cellsOf 5 = 1 := by kernel_rfl
theorem byte_flat : flat Try.prog 3 5 = some [.int .u8] := by kernel_rfl

def MsgOk (i s x : Int) : Prop := 0 ≤ i ∧ i < 65536 ∧ 0 ≤ s ∧ s < 65536 ∧ 0 ≤ x ∧ x < 256

set_option maxRecDepth 100000 in
theorem open_msg {H : Type} {enc : TypeId × Value → H} {W : World} {base base' : Nat} {sp : Nat → Bool} {held : Bool} {v : Value} {d : DataW H} {ps : List MemPlace} {r : Reach}
    (hok : Value.okWide Try.prog W r base' 24 v) (h : DataW.Trod enc Try.prog W base sp held 24 v d ps) :
    ∃ i s x : Int, v = .agg #[.int .u16 i, .int .u16 s, .int .u8 x] ∧ MsgOk i s x := by
  obtain ⟨cs, rfl, hs⟩ := okWide_struct Try.underlying24 hok
  obtain ⟨fuel, hf⟩ := h
  have h0 := flat_ok 3 _ _ _ _ _ msg_flat hf
  obtain ⟨n1, c1, hc1, w1, h1⟩ := h0.int_inv
  obtain ⟨n2, c2, rfl, w2, h2⟩ := h1.int_inv
  obtain ⟨n3, c3, rfl, w3, h3⟩ := h2.int_inv
  obtain rfl := h3.nil_inv
  refine ⟨n1, n2, n3, ?_, ?_⟩
  · have : cs.toList = [.int .u16 n1, .int .u16 n2, .int .u8 n3] := by simpa [Value.cells] using hc1
    rw [← Array.toArray_toList (xs := cs), this]
  · simp [Lit.wf, IntKind.min, IntKind.max, IntKind.signed, IntKind.bits] at w1 w2 w3
    unfold MsgOk
    omega

theorem byte_of {H : Type} {enc : TypeId × Value → H} {W : World} {base : Nat} {sp : Nat → Bool} {held : Bool} {fuel : Nat} {cs : List Value} {x : DataW H × List MemPlace}
    (hx : DataW.trod enc Try.prog W base sp held fuel 5 cs = some x) : ∃ o : Int, cs = [Value.int .u8 o] ∧ (0 ≤ o ∧ o < 256) := by
  have h0 := flat_ok 3 _ _ _ _ _ byte_flat hx
  obtain ⟨n1, c1, rfl, w1, h1⟩ := h0.int_inv
  obtain rfl := h1.nil_inv
  refine ⟨n1, rfl, ?_⟩
  simp [Lit.wf, IntKind.min, IntKind.max, IntKind.signed, IntKind.bits] at w1
  omega

theorem rd_of_rdl {w : World} {v : Value} {l : List Int} (h : RdL w v 1 (l.map fun n => [Value.int .u8 n])) : Rd w v l.length (nums .u8 l) := by
  rcases h with ⟨rfl, h⟩ | ⟨ad, c, hv, hc, hm, hr⟩
  · obtain rfl : l = [] := by simpa using h
    exact .inl ⟨rfl, rfl, rfl⟩
  · rw [List.length_map] at hv hc
    refine .inr ⟨ad, c, hv, hc, hm, fun j u hu => ?_⟩
    simp only [nums, List.getElem?_map, Option.map_eq_some_iff] at hu
    obtain ⟨n, hn, rfl⟩ := hu
    have := (hr j [Value.int .u8 n] (by rw [List.getElem?_map, hn]; rfl)).2 0 _ rfl
    simpa using this

set_option maxRecDepth 100000 in
theorem open_bytes {H : Type} {enc : TypeId × Value → H} {W : World} {base base' : Nat} {sp : Nat → Bool} {held : Bool} {v : Value} {d : DataW H} {ps : List MemPlace} {r : Reach}
    (hok : Value.okWide Try.prog W r base' 25 v) (h : DataW.Trod enc Try.prog W base sp held 25 v d ps) :
    ∃ l : List Int, Rd W v l.length (nums .u8 l) ∧ ∀ o, o ∈ l → 0 ≤ o ∧ o < 256 := by
  obtain ⟨fuel, hf⟩ := trod_of Try.underlying25 hok h
  obtain ⟨l, h1, h2⟩ := open_rows (P := Try.prog) (t := 25) (e := 5) Try.underlying25 1 byte_size (fun n : Int => [Value.int .u8 n]) (fun n => 0 ≤ n ∧ n < 256) (fun fuel cs x hx => byte_of hx) hf
  exact ⟨l, rd_of_rdl h1, h2⟩

end Go.Proofs.Ytpnnalkihcemhaa.Frag
