/- Entities and lists of them as arguments. -/
import Derived.Test.YtfcncmhcmbghpaaEnt
set_option linter.unusedVariables false
set_option linter.unusedSimpArgs false
namespace Go.Proofs.Ytfcncmhcmbghpaa.Ents
open Go.RowKit Go.Deep Go.WideShapes Go.ChangeShapes Go.Proofs.Ytfcncmhcmbghpaa.Mem Go.Proofs.Ytfcncmhcmbghpaa.Open Go.Proofs.Ytfcncmhcmbghpaa.Num

theorem ent_size : Try.prog.cellsOf 29 = 8 := by kernel_rfl
theorem ent_flat : flat Try.prog 5 29 = some [.int .i64, .int .i64, .int .i64, .int .i64, .int .i64, .int .i64, .int .i64, .int .i64] := by kernel_rfl

theorem ent_of {H : Type} {enc : TypeId × Value → H} {W : World} {base : Nat} {sp : Nat → Bool} {held : Bool} {fuel : Nat} {cs : List Value} {x : DataW H × List MemPlace}
    (hx : DataW.trod enc Try.prog W base sp held fuel 29 cs = some x) : ∃ o : Enty, cs = o.cells ∧ o.wf := by
  have h0 := flat_ok 5 _ _ _ _ _ ent_flat hx
  obtain ⟨n1, c1, rfl, w1, h1⟩ := h0.int_inv
  obtain ⟨n2, c2, rfl, w2, h2⟩ := h1.int_inv
  obtain ⟨n3, c3, rfl, w3, h3⟩ := h2.int_inv
  obtain ⟨n4, c4, rfl, w4, h4⟩ := h3.int_inv
  obtain ⟨n5, c5, rfl, w5, h5⟩ := h4.int_inv
  obtain ⟨n6, c6, rfl, w6, h6⟩ := h5.int_inv
  obtain ⟨n7, c7, rfl, w7, h7⟩ := h6.int_inv
  obtain ⟨n8, c8, rfl, w8, h8⟩ := h7.int_inv
  obtain rfl := h8.nil_inv
  refine ⟨⟨n1, n2, n3, n4, n5, n6, n7, n8⟩, rfl, ?_⟩
  simp [Lit.wf, IntKind.min, IntKind.max, IntKind.signed, IntKind.bits] at w1 w2 w3 w4 w5 w6 w7 w8
  unfold Enty.wf i64ok
  simp only
  omega

theorem open_ents {H : Type} {enc : TypeId × Value → H} {W : World} {base base' : Nat} {sp : Nat → Bool} {held : Bool} {v : Value} {d : DataW H} {ps : List MemPlace} {r : Reach}
    (hok : Value.okWide Try.prog W r base' 22 v) (h : DataW.Trod enc Try.prog W base sp held 22 v d ps) :
    ∃ l : List Enty, RdL W v 8 (l.map Enty.cells) ∧ ∀ o, o ∈ l → o.wf := by
  obtain ⟨fuel, hf⟩ := trod_of Try.underlying22 hok h
  exact open_rows (P := Try.prog) (t := 22) (e := 29) Try.underlying22 8 ent_size Enty.cells Enty.wf (fun fuel cs x hx => ent_of hx) hf

theorem open_ent {H : Type} {enc : TypeId × Value → H} {W : World} {base base' : Nat} {sp : Nat → Bool} {held : Bool} {v : Value} {d : DataW H} {ps : List MemPlace} {r : Reach}
    (hok : Value.okWide Try.prog W r base' 29 v) (h : DataW.Trod enc Try.prog W base sp held 29 v d ps) : ∃ c : Enty, v = c.val ∧ c.wf := by
  obtain ⟨cs, rfl, hs⟩ := okWide_struct Try.underlying29 hok
  obtain ⟨fuel, hf⟩ := h
  obtain ⟨o, ho, hw⟩ := ent_of hf
  refine ⟨o, ?_, hw⟩
  have : cs.toList = o.cells := by simpa [Value.cells] using ho
  unfold Enty.val
  rw [← Array.toArray_toList (xs := cs), this]
  rfl

end Go.Proofs.Ytfcncmhcmbghpaa.Ents
