/- Commands and lists of them as arguments. -/
import Derived.Test.YtioogmicdonbpaaRow
import Derived.Test.YtioogmicdonbpaaCmdB
set_option linter.unusedVariables false
set_option linter.unusedSimpArgs false
namespace Go.Proofs.Ytioogmicdonbpaa.Cmds
open Go.RowKit Go.Deep Go.WideShapes Go.ChangeShapes Go.Proofs.Ytioogmicdonbpaa.Mem Go.Proofs.Ytioogmicdonbpaa.Open Go.Proofs.Ytioogmicdonbpaa.Num

theorem cmd_size : Try.prog.cellsOf 28 = 6 := by kernel_rfl
theorem cmd_flat : flat Try.prog 3 28 = some [.int .u32, .int .i8, .int .i8, .bool, .int .u32, .int .u8] := by kernel_rfl

theorem cmd_of {H : Type} {enc : TypeId × Value → H} {W : World} {base : Nat} {sp : Nat → Bool} {held : Bool} {fuel : Nat} {cs : List Value} {x : DataW H × List MemPlace}
    (hx : DataW.trod enc Try.prog W base sp held fuel 28 cs = some x) : ∃ o : Cmd, cs = o.cells ∧ o.wf := by
  have h0 := flat_ok 3 _ _ _ _ _ cmd_flat hx
  obtain ⟨n1, c1, rfl, w1, h1⟩ := h0.int_inv
  obtain ⟨n2, c2, rfl, w2, h2⟩ := h1.int_inv
  obtain ⟨n3, c3, rfl, w3, h3⟩ := h2.int_inv
  obtain ⟨b, c4, rfl, h4⟩ := h3.bool_inv
  obtain ⟨n5, c5, rfl, w5, h5⟩ := h4.int_inv
  obtain ⟨n6, c6, rfl, w6, h6⟩ := h5.int_inv
  obtain rfl := h6.nil_inv
  refine ⟨⟨n1, n2, n3, b, n5, n6⟩, rfl, ?_⟩
  simp [Lit.wf, IntKind.min, IntKind.max, IntKind.signed, IntKind.bits] at w1 w2 w3 w5 w6
  unfold Cmd.wf
  simp only
  omega

theorem open_cmds {H : Type} {enc : TypeId × Value → H} {W : World} {base base' : Nat} {sp : Nat → Bool} {held : Bool} {v : Value} {d : DataW H} {ps : List MemPlace} {r : Reach}
    (hok : Value.okWide Try.prog W r base' 22 v) (h : DataW.Trod enc Try.prog W base sp held 22 v d ps) :
    ∃ l : List Cmd, RdL W v 6 (l.map Cmd.cells) ∧ ∀ o, o ∈ l → o.wf := by
  obtain ⟨fuel, hf⟩ := trod_of Try.underlying22 hok h
  haveI : Inhabited Cmd := ⟨zc⟩
  exact open_rows (P := Try.prog) (t := 22) (e := 28) Try.underlying22 6 cmd_size Cmd.cells Cmd.wf (fun fuel cs x hx => cmd_of hx) hf

theorem open_cmd {H : Type} {enc : TypeId × Value → H} {W : World} {base base' : Nat} {sp : Nat → Bool} {held : Bool} {v : Value} {d : DataW H} {ps : List MemPlace} {r : Reach}
    (hok : Value.okWide Try.prog W r base' 28 v) (h : DataW.Trod enc Try.prog W base sp held 28 v d ps) : ∃ c : Cmd, v = c.val ∧ c.wf := by
  obtain ⟨cs, rfl, hs⟩ := okWide_struct Try.underlying28 hok
  obtain ⟨fuel, hf⟩ := h
  obtain ⟨o, ho, hw⟩ := cmd_of hf
  refine ⟨o, ?_, hw⟩
  have : cs.toList = o.cells := by simpa [Value.cells] using ho
  unfold Cmd.val
  rw [← Array.toArray_toList (xs := cs), this]
  rfl

theorem take_sum (l : List Cmd) (k : Nat) (h : k < l.length) : ((l.take (k + 1)).map cmdLen).sum = ((l.take k).map cmdLen).sum + cmdLen (el l k) := by
  rw [List.take_add_one, el_get l k h]
  simp
theorem sum_le (l : List Cmd) : (l.map cmdLen).sum ≤ 57 * l.length := by
  induction l with
  | nil => simp
  | cons c l ih => simp only [List.map_cons, List.sum_cons, List.length_cons]; have := cmdLen_le c; omega

end Go.Proofs.Ytioogmicdonbpaa.Cmds
