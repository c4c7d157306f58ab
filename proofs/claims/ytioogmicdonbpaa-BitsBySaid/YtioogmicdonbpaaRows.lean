/-
  No cell of these rows narrows 'for every input' (looked for: loops, veiled, ifaces, maps, wideKeys, modest, calm, conditions, laid).
  DERIVED. THE GIVEN ROWS OF THIS SEAT. 9 by the template 'for every input the law returns true; each argument reads behind the call as it read before'; 0 by the template 'total and deterministic' (their statements: YtioogmicdonbpaaTotals.lean).
  GIVEN WITH THE SEED: the statements are not yours to turn. If you find one false, say at which input.
  Laid BY PROGRAM, IN A SANDBOX (cutbox-rows.mjs): the forced cells as the released guide's own fill.sh prints them over the translation c1c5720b77f1eb98… (all of the seat's roots in one cut). By AI agents, Wed Nov 11 2026. No macro, syntax, notation, axiom, sorry.
-/
import Derived.Test.YtioogmicdonbpaaChecked
import GoSem.Claim
import GoSem.ClaimJoined
import GoSem.ClaimMapViews
import Derived.JoinedTies
import Derived.KernelRfl
namespace Go.Proofs.Ytioogmicdonbpaa
/- THE CELL 'sum', in the pinned program and in every row, IS THE sha256 OF THE DUMP (.gsa) THAT YtioogmicdonbpaaProg.lean LOADS. Nothing in Lean hashes anything: it is a label: what it is worth is what the hold of that sum in a sandbox is worth. -/
noncomputable def Try.pinned : Pinned := { name := "ytioogmicdonbpaa", sum := "c1c5720b77f1eb98165efda1f2b00c2a32a8246d1b761210b72946f8bf6c99bb", checked := Try.checked }
namespace Rows
def none {H : Type} : Left H := { results := [], args := [] }

/-- 'ricochetlaw09.CommandRows': WHATEVER THE INPUT: true; the input reads as it did. -/
def commandRowsSpec : ChangeSpec := { name := "commandRows", fn := fun _ => fun
  | [d1, d2] => { results := [.lit (.bool true)], args := [d1, d2] }
  | _ => none }
def commandRowsRow : OpenClaim := { program := "ytioogmicdonbpaa", sum := "c1c5720b77f1eb98165efda1f2b00c2a32a8246d1b761210b72946f8bf6c99bb", func := "ricochet/ricochetlaw09.CommandRows", spec := "commandRows", apart := false }
def CommandRowsSaid : Prop := commandRowsRow.holds Try.pinned (OpenSpec.ofChange commandRowsSpec)

/-- ITS FALSE NEIGHBOUR: 'it returns false'. Refute it at one input. -/
def commandRowsWrong : ChangeSpec := { name := "commandRows", fn := fun _ => fun
  | [d1, d2] => { results := [.lit (.bool false)], args := [d1, d2] }
  | _ => none }
def CommandRowsWrongFalsely : Prop := commandRowsRow.holds Try.pinned (OpenSpec.ofChange commandRowsWrong)

/-- 'ricochetlaw09.CommandSizes': WHATEVER THE INPUT: true; the input reads as it did. -/
def commandSizesSpec : ChangeSpec := { name := "commandSizes", fn := fun _ => fun
  | [d] => { results := [.lit (.bool true)], args := [d] }
  | _ => none }
def commandSizesRow : OpenClaim := { program := "ytioogmicdonbpaa", sum := "c1c5720b77f1eb98165efda1f2b00c2a32a8246d1b761210b72946f8bf6c99bb", func := "ricochet/ricochetlaw09.CommandSizes", spec := "commandSizes", apart := false }
def CommandSizesSaid : Prop := commandSizesRow.holds Try.pinned (OpenSpec.ofChange commandSizesSpec)

/-- ITS FALSE NEIGHBOUR: 'it returns false'. Refute it at one input. -/
def commandSizesWrong : ChangeSpec := { name := "commandSizes", fn := fun _ => fun
  | [d] => { results := [.lit (.bool false)], args := [d] }
  | _ => none }
def CommandSizesWrongFalsely : Prop := commandSizesRow.holds Try.pinned (OpenSpec.ofChange commandSizesWrong)

/-- 'ricochetlaw09.CommandForms': WHATEVER THE INPUT: true; the input reads as it did. -/
def commandFormsSpec : ChangeSpec := { name := "commandForms", fn := fun _ => fun
  | [d1, d2] => { results := [.lit (.bool true)], args := [d1, d2] }
  | _ => none }
def commandFormsRow : OpenClaim := { program := "ytioogmicdonbpaa", sum := "c1c5720b77f1eb98165efda1f2b00c2a32a8246d1b761210b72946f8bf6c99bb", func := "ricochet/ricochetlaw09.CommandForms", spec := "commandForms", apart := false }
def CommandFormsSaid : Prop := commandFormsRow.holds Try.pinned (OpenSpec.ofChange commandFormsSpec)

/-- ITS FALSE NEIGHBOUR: 'it returns false'. Refute it at one input. -/
def commandFormsWrong : ChangeSpec := { name := "commandForms", fn := fun _ => fun
  | [d1, d2] => { results := [.lit (.bool false)], args := [d1, d2] }
  | _ => none }
def CommandFormsWrongFalsely : Prop := commandFormsRow.holds Try.pinned (OpenSpec.ofChange commandFormsWrong)

/-- 'ricochetlaw09.CommandBack': WHATEVER THE INPUT: true; the input reads as it did. -/
def commandBackSpec : ChangeSpec := { name := "commandBack", fn := fun _ => fun
  | [d1, d2] => { results := [.lit (.bool true)], args := [d1, d2] }
  | _ => none }
def commandBackRow : OpenClaim := { program := "ytioogmicdonbpaa", sum := "c1c5720b77f1eb98165efda1f2b00c2a32a8246d1b761210b72946f8bf6c99bb", func := "ricochet/ricochetlaw09.CommandBack", spec := "commandBack", apart := false }
def CommandBackSaid : Prop := commandBackRow.holds Try.pinned (OpenSpec.ofChange commandBackSpec)

/-- ITS FALSE NEIGHBOUR: 'it returns false'. Refute it at one input. -/
def commandBackWrong : ChangeSpec := { name := "commandBack", fn := fun _ => fun
  | [d1, d2] => { results := [.lit (.bool false)], args := [d1, d2] }
  | _ => none }
def CommandBackWrongFalsely : Prop := commandBackRow.holds Try.pinned (OpenSpec.ofChange commandBackWrong)

/-- 'ricochetlaw06.BitsPuts': WHATEVER THE INPUT: true; the input reads as it did. -/
def bitsPutsSpec : ChangeSpec := { name := "bitsPuts", fn := fun _ => fun
  | [d] => { results := [.lit (.bool true)], args := [d] }
  | _ => none }
def bitsPutsRow : OpenClaim := { program := "ytioogmicdonbpaa", sum := "c1c5720b77f1eb98165efda1f2b00c2a32a8246d1b761210b72946f8bf6c99bb", func := "ricochet/ricochetlaw06.BitsPuts", spec := "bitsPuts", apart := false }
def BitsPutsSaid : Prop := bitsPutsRow.holds Try.pinned (OpenSpec.ofChange bitsPutsSpec)

/-- ITS FALSE NEIGHBOUR: 'it returns false'. Refute it at one input. -/
def bitsPutsWrong : ChangeSpec := { name := "bitsPuts", fn := fun _ => fun
  | [d] => { results := [.lit (.bool false)], args := [d] }
  | _ => none }
def BitsPutsWrongFalsely : Prop := bitsPutsRow.holds Try.pinned (OpenSpec.ofChange bitsPutsWrong)

/-- 'ricochetlaw06.BitsShort': WHATEVER THE INPUT: true; the input reads as it did. -/
def bitsShortSpec : ChangeSpec := { name := "bitsShort", fn := fun _ => fun
  | [d1, d2] => { results := [.lit (.bool true)], args := [d1, d2] }
  | _ => none }
def bitsShortRow : OpenClaim := { program := "ytioogmicdonbpaa", sum := "c1c5720b77f1eb98165efda1f2b00c2a32a8246d1b761210b72946f8bf6c99bb", func := "ricochet/ricochetlaw06.BitsShort", spec := "bitsShort", apart := false }
def BitsShortSaid : Prop := bitsShortRow.holds Try.pinned (OpenSpec.ofChange bitsShortSpec)

/-- ITS FALSE NEIGHBOUR: 'it returns false'. Refute it at one input. -/
def bitsShortWrong : ChangeSpec := { name := "bitsShort", fn := fun _ => fun
  | [d1, d2] => { results := [.lit (.bool false)], args := [d1, d2] }
  | _ => none }
def BitsShortWrongFalsely : Prop := bitsShortRow.holds Try.pinned (OpenSpec.ofChange bitsShortWrong)

/-- 'ricochetlaw06.BitsBy': WHATEVER THE INPUT: true; the input reads as it did. -/
def bitsBySpec : ChangeSpec := { name := "bitsBy", fn := fun _ => fun
  | [d1, d2, d3] => { results := [.lit (.bool true)], args := [d1, d2, d3] }
  | _ => none }
def bitsByRow : OpenClaim := { program := "ytioogmicdonbpaa", sum := "c1c5720b77f1eb98165efda1f2b00c2a32a8246d1b761210b72946f8bf6c99bb", func := "ricochet/ricochetlaw06.BitsBy", spec := "bitsBy", apart := false }
def BitsBySaid : Prop := bitsByRow.holds Try.pinned (OpenSpec.ofChange bitsBySpec)

/-- ITS FALSE NEIGHBOUR: 'it returns false'. Refute it at one input. -/
def bitsByWrong : ChangeSpec := { name := "bitsBy", fn := fun _ => fun
  | [d1, d2, d3] => { results := [.lit (.bool false)], args := [d1, d2, d3] }
  | _ => none }
def BitsByWrongFalsely : Prop := bitsByRow.holds Try.pinned (OpenSpec.ofChange bitsByWrong)

/-- 'ricochetlaw06.BitsNil': WHATEVER THE INPUT: true; the input reads as it did. -/
def bitsNilSpec : ChangeSpec := { name := "bitsNil", fn := fun _ => fun
  | [d1, d2] => { results := [.lit (.bool true)], args := [d1, d2] }
  | _ => none }
def bitsNilRow : OpenClaim := { program := "ytioogmicdonbpaa", sum := "c1c5720b77f1eb98165efda1f2b00c2a32a8246d1b761210b72946f8bf6c99bb", func := "ricochet/ricochetlaw06.BitsNil", spec := "bitsNil", apart := false }
def BitsNilSaid : Prop := bitsNilRow.holds Try.pinned (OpenSpec.ofChange bitsNilSpec)

/-- ITS FALSE NEIGHBOUR: 'it returns false'. Refute it at one input. -/
def bitsNilWrong : ChangeSpec := { name := "bitsNil", fn := fun _ => fun
  | [d1, d2] => { results := [.lit (.bool false)], args := [d1, d2] }
  | _ => none }
def BitsNilWrongFalsely : Prop := bitsNilRow.holds Try.pinned (OpenSpec.ofChange bitsNilWrong)

/-- 'ricochetlaw06.BitsBack': WHATEVER THE INPUT: true; the input reads as it did. -/
def bitsBackSpec : ChangeSpec := { name := "bitsBack", fn := fun _ => fun
  | [d] => { results := [.lit (.bool true)], args := [d] }
  | _ => none }
def bitsBackRow : OpenClaim := { program := "ytioogmicdonbpaa", sum := "c1c5720b77f1eb98165efda1f2b00c2a32a8246d1b761210b72946f8bf6c99bb", func := "ricochet/ricochetlaw06.BitsBack", spec := "bitsBack", apart := false }
def BitsBackSaid : Prop := bitsBackRow.holds Try.pinned (OpenSpec.ofChange bitsBackSpec)

/-- ITS FALSE NEIGHBOUR: 'it returns false'. Refute it at one input. -/
def bitsBackWrong : ChangeSpec := { name := "bitsBack", fn := fun _ => fun
  | [d] => { results := [.lit (.bool false)], args := [d] }
  | _ => none }
def BitsBackWrongFalsely : Prop := bitsBackRow.holds Try.pinned (OpenSpec.ofChange bitsBackWrong)

/- THE SECOND FORM. 'bulk': how many values and letters a reading holds, each counted each time it is reached (what is shared counts as often as it is met; a slice's spare places count too). A statement '..UptoSaid' is the law's where the arguments, and the package variables that the reading takes, are together of bulk at most 1048576: NARROWER than '..Said'. Prove '..Said' where nothing that the law and all that it calls make is longer than what came in: it says more and counts as full. Else prove '..UptoSaid'. A law counts once. -/
mutual
def uptoBulk {H : Type} : DataW H → Nat
  | .lit (.string bytes) => bytes.length + 1
  | .lit _ => 1
  | .nil => 1
  | .ptr d => uptoBulk d + 1
  | .slice elems spare => uptoBulkAll elems + uptoBulkAll spare + 1
  | .agg parts => uptoBulkAll parts + 1
  | .iface _ d => uptoBulk d + 1
  | .map entries => uptoBulkEntries entries + 1
  | .held _ => 1
def uptoBulkAll {H : Type} : List (DataW H) → Nat
  | [] => 0
  | d :: r => uptoBulk d + uptoBulkAll r
def uptoBulkEntries {H : Type} : List (Lit × DataW H) → Nat
  | [] => 0
  | x :: r => uptoBulkEntry x + uptoBulkEntries r
def uptoBulkEntry {H : Type} : Lit × DataW H → Nat
  | (.string bytes, d) => bytes.length + uptoBulk d + 1
  | (_, d) => uptoBulk d + 1
 end
def uptoSmall : (H : Type) → List (DataW H) → Bool := fun _ ds => decide (uptoBulkAll ds ≤ 1048576)
def OpenSpec.upto (s : _root_.Go.ChangeSpec) : _root_.Go.OpenSpec := { _root_.Go.OpenSpec.ofChange s with cond := some uptoSmall }

/-- 'ricochetlaw09.CommandRows', WHERE WHAT IT READS IS OF BULK AT MOST 1048576: true; the input reads as it did. -/
def commandRowsUptoRow : OpenClaim := { program := "ytioogmicdonbpaa", sum := "c1c5720b77f1eb98165efda1f2b00c2a32a8246d1b761210b72946f8bf6c99bb", func := "ricochet/ricochetlaw09.CommandRows", spec := "commandRows", apart := false, narrowed := true }
def CommandRowsUptoSaid : Prop := commandRowsUptoRow.holds Try.pinned (OpenSpec.upto commandRowsSpec)

/-- 'ricochetlaw09.CommandSizes', WHERE WHAT IT READS IS OF BULK AT MOST 1048576: true; the input reads as it did. -/
def commandSizesUptoRow : OpenClaim := { program := "ytioogmicdonbpaa", sum := "c1c5720b77f1eb98165efda1f2b00c2a32a8246d1b761210b72946f8bf6c99bb", func := "ricochet/ricochetlaw09.CommandSizes", spec := "commandSizes", apart := false, narrowed := true }
def CommandSizesUptoSaid : Prop := commandSizesUptoRow.holds Try.pinned (OpenSpec.upto commandSizesSpec)

/-- 'ricochetlaw09.CommandForms', WHERE WHAT IT READS IS OF BULK AT MOST 1048576: true; the input reads as it did. -/
def commandFormsUptoRow : OpenClaim := { program := "ytioogmicdonbpaa", sum := "c1c5720b77f1eb98165efda1f2b00c2a32a8246d1b761210b72946f8bf6c99bb", func := "ricochet/ricochetlaw09.CommandForms", spec := "commandForms", apart := false, narrowed := true }
def CommandFormsUptoSaid : Prop := commandFormsUptoRow.holds Try.pinned (OpenSpec.upto commandFormsSpec)

/-- 'ricochetlaw09.CommandBack', WHERE WHAT IT READS IS OF BULK AT MOST 1048576: true; the input reads as it did. -/
def commandBackUptoRow : OpenClaim := { program := "ytioogmicdonbpaa", sum := "c1c5720b77f1eb98165efda1f2b00c2a32a8246d1b761210b72946f8bf6c99bb", func := "ricochet/ricochetlaw09.CommandBack", spec := "commandBack", apart := false, narrowed := true }
def CommandBackUptoSaid : Prop := commandBackUptoRow.holds Try.pinned (OpenSpec.upto commandBackSpec)

/-- 'ricochetlaw06.BitsPuts', WHERE WHAT IT READS IS OF BULK AT MOST 1048576: true; the input reads as it did. -/
def bitsPutsUptoRow : OpenClaim := { program := "ytioogmicdonbpaa", sum := "c1c5720b77f1eb98165efda1f2b00c2a32a8246d1b761210b72946f8bf6c99bb", func := "ricochet/ricochetlaw06.BitsPuts", spec := "bitsPuts", apart := false, narrowed := true }
def BitsPutsUptoSaid : Prop := bitsPutsUptoRow.holds Try.pinned (OpenSpec.upto bitsPutsSpec)

/-- 'ricochetlaw06.BitsShort', WHERE WHAT IT READS IS OF BULK AT MOST 1048576: true; the input reads as it did. -/
def bitsShortUptoRow : OpenClaim := { program := "ytioogmicdonbpaa", sum := "c1c5720b77f1eb98165efda1f2b00c2a32a8246d1b761210b72946f8bf6c99bb", func := "ricochet/ricochetlaw06.BitsShort", spec := "bitsShort", apart := false, narrowed := true }
def BitsShortUptoSaid : Prop := bitsShortUptoRow.holds Try.pinned (OpenSpec.upto bitsShortSpec)

/-- 'ricochetlaw06.BitsBy', WHERE WHAT IT READS IS OF BULK AT MOST 1048576: true; the input reads as it did. -/
def bitsByUptoRow : OpenClaim := { program := "ytioogmicdonbpaa", sum := "c1c5720b77f1eb98165efda1f2b00c2a32a8246d1b761210b72946f8bf6c99bb", func := "ricochet/ricochetlaw06.BitsBy", spec := "bitsBy", apart := false, narrowed := true }
def BitsByUptoSaid : Prop := bitsByUptoRow.holds Try.pinned (OpenSpec.upto bitsBySpec)

/-- 'ricochetlaw06.BitsNil', WHERE WHAT IT READS IS OF BULK AT MOST 1048576: true; the input reads as it did. -/
def bitsNilUptoRow : OpenClaim := { program := "ytioogmicdonbpaa", sum := "c1c5720b77f1eb98165efda1f2b00c2a32a8246d1b761210b72946f8bf6c99bb", func := "ricochet/ricochetlaw06.BitsNil", spec := "bitsNil", apart := false, narrowed := true }
def BitsNilUptoSaid : Prop := bitsNilUptoRow.holds Try.pinned (OpenSpec.upto bitsNilSpec)

/-- 'ricochetlaw06.BitsBack', WHERE WHAT IT READS IS OF BULK AT MOST 1048576: true; the input reads as it did. -/
def bitsBackUptoRow : OpenClaim := { program := "ytioogmicdonbpaa", sum := "c1c5720b77f1eb98165efda1f2b00c2a32a8246d1b761210b72946f8bf6c99bb", func := "ricochet/ricochetlaw06.BitsBack", spec := "bitsBack", apart := false, narrowed := true }
def BitsBackUptoSaid : Prop := bitsBackUptoRow.holds Try.pinned (OpenSpec.upto bitsBackSpec)

end Rows
end Go.Proofs.Ytioogmicdonbpaa
