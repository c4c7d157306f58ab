/- What is put: a list of bits for each. -/
import Derived.Test.YtioogmicdonbpaaWr
import Derived.Test.YtioogmicdonbpaaSmallP
import Derived.Test.YtioogmicdonbpaaOpen
set_option linter.unusedVariables false
set_option linter.unusedSimpArgs false
namespace Go.Proofs.Ytioogmicdonbpaa.Wr
open Go.RowKit Go.Proofs.Ytioogmicdonbpaa.Mem Go.Proofs.Ytioogmicdonbpaa.Bits Go.Proofs.Ytioogmicdonbpaa.Num Go.Proofs.Ytioogmicdonbpaa.Open Go.Proofs.YtioogmicdonbpaaW.PrintWords

def opCells (o : Bool × Int × Int) : List Value := [.bool o.1, .int .u64 o.2.1, .int .i64 o.2.2]
def opWf (o : Bool × Int × Int) : Prop := (0 ≤ o.2.1 ∧ o.2.1 < 18446744073709551616) ∧ -9223372036854775808 ≤ o.2.2 ∧ o.2.2 ≤ 9223372036854775807

def opBits (o : Bool × Int × Int) : List Bool :=
  if o.1 = true then smallB (zig (wrap64 o.2.1)).toNat else if 0 ≤ o.2.2 ∧ o.2.2 ≤ 64 then bitsOf o.2.1 o.2.2.toNat else []

theorem wrap64_range (x : Int) : -9223372036854775808 ≤ wrap64 x ∧ wrap64 x ≤ 9223372036854775807 := by unfold wrap64; omega

theorem opBits_len (o : Bool × Int × Int) : (opBits o).length ≤ 80 := by
  unfold opBits
  split
  · exact smallB_80 _ (by have := wrap64_range o.2.1; have := zig_range _ this.1 this.2; omega)
  · split
    · rw [bitsOf_length]; omega
    · simp

theorem opsBits_len (l : List (Bool × Int × Int)) : (l.flatMap opBits).length ≤ 80 * l.length := by
  induction l with
  | nil => simp
  | cons o l ih =>
    simp only [List.flatMap_cons, List.length_append, List.length_cons]
    have := opBits_len o
    omega

theorem take_flat (l : List (Bool × Int × Int)) (k : Nat) (o : Bool × Int × Int) (h : l[k]? = some o) : (l.take (k + 1)).flatMap opBits = (l.take k).flatMap opBits ++ opBits o := by
  obtain ⟨hk, rfl⟩ := List.getElem?_eq_some_iff.1 h
  rw [List.take_succ_eq_append_getElem hk, List.flatMap_append]
  simp only [List.flatMap_cons, List.flatMap_nil, List.append_nil]

theorem ops_flat : flat Try.prog 3 55 = some [.bool, .int .u64, .int .i64] := by kernel_rfl

theorem ops_size : Try.prog.cellsOf 55 = 3 := by kernel_rfl

set_option maxRecDepth 100000 in
theorem open_ops {H : Type} {enc : TypeId × Value → H} {W : World} {base base' : Nat} {sp : Nat → Bool} {held : Bool} {v : Value} {d : DataW H} {ps : List MemPlace} {r : Reach}
    (hok : Value.okWide Try.prog W r base' 53 v) (h : DataW.Trod enc Try.prog W base sp held 53 v d ps) :
    ∃ ops : List (Bool × Int × Int), RdL W v 3 (ops.map opCells) ∧ ∀ o, o ∈ ops → opWf o := by
  obtain ⟨fuel, hf⟩ := trod_of Try.underlying53 hok h
  refine open_rows (P := Try.prog) (t := 53) (e := 55) Try.underlying53 3 ops_size opCells opWf (fun fuel cs x hx => ?_) hf
  have h0 := flat_ok 3 _ _ _ _ _ ops_flat hx
  obtain ⟨b, c1, rfl, h1⟩ := h0.bool_inv
  obtain ⟨n1, c2, rfl, w1, h2⟩ := h1.int_inv
  obtain ⟨n2, c3, rfl, w2, h3⟩ := h2.int_inv
  obtain rfl := h3.nil_inv
  have h4 := bounds_u64 w1
  exact ⟨(b, n1, n2), rfl, ⟨h4.1, Int.lt_of_le_of_lt h4.2 (by decide)⟩, bounds_i64 w2⟩

end Go.Proofs.Ytioogmicdonbpaa.Wr
