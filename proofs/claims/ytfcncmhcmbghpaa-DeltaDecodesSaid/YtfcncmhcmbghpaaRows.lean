/-
  No cell of these rows narrows 'for every input' (looked for: loops, veiled, ifaces, maps, wideKeys, modest, calm, conditions, laid).
  DERIVED. THE GIVEN ROWS OF THIS SEAT. 10 by the template 'for every input the law returns true; each argument reads behind the call as it read before'; 0 by the template 'total and deterministic' (their statements: YtfcncmhcmbghpaaTotals.lean).
  GIVEN WITH THE SEED: the statements are not yours to turn. If you find one false, say at which input.
  Laid BY PROGRAM, IN A SANDBOX (cutbox-rows.mjs): the forced cells as the released guide's own fill.sh prints them over the translation 4efa6bb5e467d800… (all of the seat's roots in one cut). By AI agents, Wed Nov 11 2026. No macro, syntax, notation, axiom, sorry.
-/
import Derived.Test.YtfcncmhcmbghpaaChecked
import GoSem.Claim
import GoSem.ClaimJoined
import GoSem.ClaimMapViews
import Derived.JoinedTies
import Derived.KernelRfl
namespace Go.Proofs.Ytfcncmhcmbghpaa
/- THE CELL 'sum', in the pinned program and in every row, IS THE sha256 OF THE DUMP (.gsa) THAT YtfcncmhcmbghpaaProg.lean LOADS. Nothing in Lean hashes anything: it is a label: what it is worth is what the hold of that sum in a sandbox is worth. -/
noncomputable def Try.pinned : Pinned := { name := "ytfcncmhcmbghpaa", sum := "4efa6bb5e467d8000a225a395ebdc4ae9f3bac70e13f7e1dc0eb20eddeb8f2a7", checked := Try.checked }
namespace Rows
def none {H : Type} : Left H := { results := [], args := [] }

/-- 'ricochetlaw10.EntityForms': WHATEVER THE INPUT: true; the input reads as it did. -/
def entityFormsSpec : ChangeSpec := { name := "entityForms", fn := fun _ => fun
  | [d1, d2] => { results := [.lit (.bool true)], args := [d1, d2] }
  | _ => none }
def entityFormsRow : OpenClaim := { program := "ytfcncmhcmbghpaa", sum := "4efa6bb5e467d8000a225a395ebdc4ae9f3bac70e13f7e1dc0eb20eddeb8f2a7", func := "ricochet/ricochetlaw10.EntityForms", spec := "entityForms", unfollowed := true, recurses := true, apart := false }
def EntityFormsSaid : Prop := entityFormsRow.holds Try.pinned (OpenSpec.ofChange entityFormsSpec)

/-- ITS FALSE NEIGHBOUR: 'it returns false'. Refute it at one input. -/
def entityFormsWrong : ChangeSpec := { name := "entityForms", fn := fun _ => fun
  | [d1, d2] => { results := [.lit (.bool false)], args := [d1, d2] }
  | _ => none }
def EntityFormsWrongFalsely : Prop := entityFormsRow.holds Try.pinned (OpenSpec.ofChange entityFormsWrong)

/-- 'ricochetlaw10.EntityOrder': WHATEVER THE INPUT: true; the input reads as it did. -/
def entityOrderSpec : ChangeSpec := { name := "entityOrder", fn := fun _ => fun
  | [d1, d2] => { results := [.lit (.bool true)], args := [d1, d2] }
  | _ => none }
def entityOrderRow : OpenClaim := { program := "ytfcncmhcmbghpaa", sum := "4efa6bb5e467d8000a225a395ebdc4ae9f3bac70e13f7e1dc0eb20eddeb8f2a7", func := "ricochet/ricochetlaw10.EntityOrder", spec := "entityOrder", unfollowed := true, recurses := true, apart := false }
def EntityOrderSaid : Prop := entityOrderRow.holds Try.pinned (OpenSpec.ofChange entityOrderSpec)

/-- ITS FALSE NEIGHBOUR: 'it returns false'. Refute it at one input. -/
def entityOrderWrong : ChangeSpec := { name := "entityOrder", fn := fun _ => fun
  | [d1, d2] => { results := [.lit (.bool false)], args := [d1, d2] }
  | _ => none }
def EntityOrderWrongFalsely : Prop := entityOrderRow.holds Try.pinned (OpenSpec.ofChange entityOrderWrong)

/-- 'ricochetlaw10.EntityKind': WHATEVER THE INPUT: true; the input reads as it did. -/
def entityKindSpec : ChangeSpec := { name := "entityKind", fn := fun _ => fun
  | [d1, d2] => { results := [.lit (.bool true)], args := [d1, d2] }
  | _ => none }
def entityKindRow : OpenClaim := { program := "ytfcncmhcmbghpaa", sum := "4efa6bb5e467d8000a225a395ebdc4ae9f3bac70e13f7e1dc0eb20eddeb8f2a7", func := "ricochet/ricochetlaw10.EntityKind", spec := "entityKind", unfollowed := true, recurses := true, apart := false }
def EntityKindSaid : Prop := entityKindRow.holds Try.pinned (OpenSpec.ofChange entityKindSpec)

/-- ITS FALSE NEIGHBOUR: 'it returns false'. Refute it at one input. -/
def entityKindWrong : ChangeSpec := { name := "entityKind", fn := fun _ => fun
  | [d1, d2] => { results := [.lit (.bool false)], args := [d1, d2] }
  | _ => none }
def EntityKindWrongFalsely : Prop := entityKindRow.holds Try.pinned (OpenSpec.ofChange entityKindWrong)

/-- 'ricochetlaw10.EntityPuts': WHATEVER THE INPUT: true; the input reads as it did. -/
def entityPutsSpec : ChangeSpec := { name := "entityPuts", fn := fun _ => fun
  | [d1, d2] => { results := [.lit (.bool true)], args := [d1, d2] }
  | _ => none }
def entityPutsRow : OpenClaim := { program := "ytfcncmhcmbghpaa", sum := "4efa6bb5e467d8000a225a395ebdc4ae9f3bac70e13f7e1dc0eb20eddeb8f2a7", func := "ricochet/ricochetlaw10.EntityPuts", spec := "entityPuts", unfollowed := true, recurses := true, apart := false }
def EntityPutsSaid : Prop := entityPutsRow.holds Try.pinned (OpenSpec.ofChange entityPutsSpec)

/-- ITS FALSE NEIGHBOUR: 'it returns false'. Refute it at one input. -/
def entityPutsWrong : ChangeSpec := { name := "entityPuts", fn := fun _ => fun
  | [d1, d2] => { results := [.lit (.bool false)], args := [d1, d2] }
  | _ => none }
def EntityPutsWrongFalsely : Prop := entityPutsRow.holds Try.pinned (OpenSpec.ofChange entityPutsWrong)

/-- 'ricochetlaw10.EntityBack': WHATEVER THE INPUT: true; the input reads as it did. -/
def entityBackSpec : ChangeSpec := { name := "entityBack", fn := fun _ => fun
  | [d1, d2] => { results := [.lit (.bool true)], args := [d1, d2] }
  | _ => none }
def entityBackRow : OpenClaim := { program := "ytfcncmhcmbghpaa", sum := "4efa6bb5e467d8000a225a395ebdc4ae9f3bac70e13f7e1dc0eb20eddeb8f2a7", func := "ricochet/ricochetlaw10.EntityBack", spec := "entityBack", unfollowed := true, recurses := true, apart := false }
def EntityBackSaid : Prop := entityBackRow.holds Try.pinned (OpenSpec.ofChange entityBackSpec)

/-- ITS FALSE NEIGHBOUR: 'it returns false'. Refute it at one input. -/
def entityBackWrong : ChangeSpec := { name := "entityBack", fn := fun _ => fun
  | [d1, d2] => { results := [.lit (.bool false)], args := [d1, d2] }
  | _ => none }
def EntityBackWrongFalsely : Prop := entityBackRow.holds Try.pinned (OpenSpec.ofChange entityBackWrong)

/-- 'ricochetlaw17.DeltaEncodes': WHATEVER THE INPUT: true; the input reads as it did. -/
def deltaEncodesSpec : ChangeSpec := { name := "deltaEncodes", fn := fun _ => fun
  | [d1, d2] => { results := [.lit (.bool true)], args := [d1, d2] }
  | _ => none }
def deltaEncodesRow : OpenClaim := { program := "ytfcncmhcmbghpaa", sum := "4efa6bb5e467d8000a225a395ebdc4ae9f3bac70e13f7e1dc0eb20eddeb8f2a7", func := "ricochet/ricochetlaw17.DeltaEncodes", spec := "deltaEncodes", unfollowed := true, recurses := true, apart := false }
def DeltaEncodesSaid : Prop := deltaEncodesRow.holds Try.pinned (OpenSpec.ofChange deltaEncodesSpec)

/-- ITS FALSE NEIGHBOUR: 'it returns false'. Refute it at one input. -/
def deltaEncodesWrong : ChangeSpec := { name := "deltaEncodes", fn := fun _ => fun
  | [d1, d2] => { results := [.lit (.bool false)], args := [d1, d2] }
  | _ => none }
def DeltaEncodesWrongFalsely : Prop := deltaEncodesRow.holds Try.pinned (OpenSpec.ofChange deltaEncodesWrong)

/-- 'ricochetlaw17.DeltaDecodes': WHATEVER THE INPUT: true; the input reads as it did. -/
def deltaDecodesSpec : ChangeSpec := { name := "deltaDecodes", fn := fun _ => fun
  | [d1, d2] => { results := [.lit (.bool true)], args := [d1, d2] }
  | _ => none }
def deltaDecodesRow : OpenClaim := { program := "ytfcncmhcmbghpaa", sum := "4efa6bb5e467d8000a225a395ebdc4ae9f3bac70e13f7e1dc0eb20eddeb8f2a7", func := "ricochet/ricochetlaw17.DeltaDecodes", spec := "deltaDecodes", unfollowed := true, recurses := true, apart := false }
def DeltaDecodesSaid : Prop := deltaDecodesRow.holds Try.pinned (OpenSpec.ofChange deltaDecodesSpec)

/-- ITS FALSE NEIGHBOUR: 'it returns false'. Refute it at one input. -/
def deltaDecodesWrong : ChangeSpec := { name := "deltaDecodes", fn := fun _ => fun
  | [d1, d2] => { results := [.lit (.bool false)], args := [d1, d2] }
  | _ => none }
def DeltaDecodesWrongFalsely : Prop := deltaDecodesRow.holds Try.pinned (OpenSpec.ofChange deltaDecodesWrong)

/-- 'ricochetlaw17.DeltaBack': WHATEVER THE INPUT: true; the input reads as it did. -/
def deltaBackSpec : ChangeSpec := { name := "deltaBack", fn := fun _ => fun
  | [d1, d2, d3] => { results := [.lit (.bool true)], args := [d1, d2, d3] }
  | _ => none }
def deltaBackRow : OpenClaim := { program := "ytfcncmhcmbghpaa", sum := "4efa6bb5e467d8000a225a395ebdc4ae9f3bac70e13f7e1dc0eb20eddeb8f2a7", func := "ricochet/ricochetlaw17.DeltaBack", spec := "deltaBack", unfollowed := true, recurses := true, apart := false }
def DeltaBackSaid : Prop := deltaBackRow.holds Try.pinned (OpenSpec.ofChange deltaBackSpec)

/-- ITS FALSE NEIGHBOUR: 'it returns false'. Refute it at one input. -/
def deltaBackWrong : ChangeSpec := { name := "deltaBack", fn := fun _ => fun
  | [d1, d2, d3] => { results := [.lit (.bool false)], args := [d1, d2, d3] }
  | _ => none }
def DeltaBackWrongFalsely : Prop := deltaBackRow.holds Try.pinned (OpenSpec.ofChange deltaBackWrong)

/-- 'ricochetlaw17.DeltaCuts': WHATEVER THE INPUT: true; the input reads as it did. -/
def deltaCutsSpec : ChangeSpec := { name := "deltaCuts", fn := fun _ => fun
  | [d1, d2, d3] => { results := [.lit (.bool true)], args := [d1, d2, d3] }
  | _ => none }
def deltaCutsRow : OpenClaim := { program := "ytfcncmhcmbghpaa", sum := "4efa6bb5e467d8000a225a395ebdc4ae9f3bac70e13f7e1dc0eb20eddeb8f2a7", func := "ricochet/ricochetlaw17.DeltaCuts", spec := "deltaCuts", unfollowed := true, recurses := true, apart := false }
def DeltaCutsSaid : Prop := deltaCutsRow.holds Try.pinned (OpenSpec.ofChange deltaCutsSpec)

/-- ITS FALSE NEIGHBOUR: 'it returns false'. Refute it at one input. -/
def deltaCutsWrong : ChangeSpec := { name := "deltaCuts", fn := fun _ => fun
  | [d1, d2, d3] => { results := [.lit (.bool false)], args := [d1, d2, d3] }
  | _ => none }
def DeltaCutsWrongFalsely : Prop := deltaCutsRow.holds Try.pinned (OpenSpec.ofChange deltaCutsWrong)

/-- 'ricochetlaw17.DeltaElse': WHATEVER THE INPUT: true; the input reads as it did. -/
def deltaElseSpec : ChangeSpec := { name := "deltaElse", fn := fun _ => fun
  | [d1, d2, d3] => { results := [.lit (.bool true)], args := [d1, d2, d3] }
  | _ => none }
def deltaElseRow : OpenClaim := { program := "ytfcncmhcmbghpaa", sum := "4efa6bb5e467d8000a225a395ebdc4ae9f3bac70e13f7e1dc0eb20eddeb8f2a7", func := "ricochet/ricochetlaw17.DeltaElse", spec := "deltaElse", unfollowed := true, recurses := true, apart := false }
def DeltaElseSaid : Prop := deltaElseRow.holds Try.pinned (OpenSpec.ofChange deltaElseSpec)

/-- ITS FALSE NEIGHBOUR: 'it returns false'. Refute it at one input. -/
def deltaElseWrong : ChangeSpec := { name := "deltaElse", fn := fun _ => fun
  | [d1, d2, d3] => { results := [.lit (.bool false)], args := [d1, d2, d3] }
  | _ => none }
def DeltaElseWrongFalsely : Prop := deltaElseRow.holds Try.pinned (OpenSpec.ofChange deltaElseWrong)

/- THE SECOND FORM. 'bulk': how many values and letters a reading holds, each counted each time it is reached (what is shared counts as often as it is met; a slice's spare places count too). A statement '..UptoSaid' is the law's where the arguments, and the package variables that the reading takes, are together of bulk at most 1048576: NARROWER than '..Said'. Prove '..Said' where nothing that the law and all that it calls make is longer than what came in: it says more and counts as full. Else prove '..UptoSaid'. A law counts once. -/
mutual
def uptoBulk {H : Type} : DataW H → Nat
  | .lit (.string bytes) => bytes.length + 1
  | .lit _ => 1
  | .nil => 1
  | .ptr d => uptoBulk d + 1
  | .slice elems spare => uptoBulkAll elems + uptoBulkAll spare + 1
  | .agg parts => uptoBulkAll parts + 1
  | .iface _ d => uptoBulk d + 1
  | .map entries => uptoBulkEntries entries + 1
  | .held _ => 1
def uptoBulkAll {H : Type} : List (DataW H) → Nat
  | [] => 0
  | d :: r => uptoBulk d + uptoBulkAll r
def uptoBulkEntries {H : Type} : List (Lit × DataW H) → Nat
  | [] => 0
  | x :: r => uptoBulkEntry x + uptoBulkEntries r
def uptoBulkEntry {H : Type} : Lit × DataW H → Nat
  | (.string bytes, d) => bytes.length + uptoBulk d + 1
  | (_, d) => uptoBulk d + 1
 end
def uptoSmall : (H : Type) → List (DataW H) → Bool := fun _ ds => decide (uptoBulkAll ds ≤ 1048576)
def OpenSpec.upto (s : _root_.Go.ChangeSpec) : _root_.Go.OpenSpec := { _root_.Go.OpenSpec.ofChange s with cond := some uptoSmall }

/-- 'ricochetlaw10.EntityForms', WHERE WHAT IT READS IS OF BULK AT MOST 1048576: true; the input reads as it did. -/
def entityFormsUptoRow : OpenClaim := { program := "ytfcncmhcmbghpaa", sum := "4efa6bb5e467d8000a225a395ebdc4ae9f3bac70e13f7e1dc0eb20eddeb8f2a7", func := "ricochet/ricochetlaw10.EntityForms", spec := "entityForms", unfollowed := true, recurses := true, apart := false, narrowed := true }
def EntityFormsUptoSaid : Prop := entityFormsUptoRow.holds Try.pinned (OpenSpec.upto entityFormsSpec)

/-- 'ricochetlaw10.EntityOrder', WHERE WHAT IT READS IS OF BULK AT MOST 1048576: true; the input reads as it did. -/
def entityOrderUptoRow : OpenClaim := { program := "ytfcncmhcmbghpaa", sum := "4efa6bb5e467d8000a225a395ebdc4ae9f3bac70e13f7e1dc0eb20eddeb8f2a7", func := "ricochet/ricochetlaw10.EntityOrder", spec := "entityOrder", unfollowed := true, recurses := true, apart := false, narrowed := true }
def EntityOrderUptoSaid : Prop := entityOrderUptoRow.holds Try.pinned (OpenSpec.upto entityOrderSpec)

/-- 'ricochetlaw10.EntityKind', WHERE WHAT IT READS IS OF BULK AT MOST 1048576: true; the input reads as it did. -/
def entityKindUptoRow : OpenClaim := { program := "ytfcncmhcmbghpaa", sum := "4efa6bb5e467d8000a225a395ebdc4ae9f3bac70e13f7e1dc0eb20eddeb8f2a7", func := "ricochet/ricochetlaw10.EntityKind", spec := "entityKind", unfollowed := true, recurses := true, apart := false, narrowed := true }
def EntityKindUptoSaid : Prop := entityKindUptoRow.holds Try.pinned (OpenSpec.upto entityKindSpec)

/-- 'ricochetlaw10.EntityPuts', WHERE WHAT IT READS IS OF BULK AT MOST 1048576: true; the input reads as it did. -/
def entityPutsUptoRow : OpenClaim := { program := "ytfcncmhcmbghpaa", sum := "4efa6bb5e467d8000a225a395ebdc4ae9f3bac70e13f7e1dc0eb20eddeb8f2a7", func := "ricochet/ricochetlaw10.EntityPuts", spec := "entityPuts", unfollowed := true, recurses := true, apart := false, narrowed := true }
def EntityPutsUptoSaid : Prop := entityPutsUptoRow.holds Try.pinned (OpenSpec.upto entityPutsSpec)

/-- 'ricochetlaw10.EntityBack', WHERE WHAT IT READS IS OF BULK AT MOST 1048576: true; the input reads as it did. -/
def entityBackUptoRow : OpenClaim := { program := "ytfcncmhcmbghpaa", sum := "4efa6bb5e467d8000a225a395ebdc4ae9f3bac70e13f7e1dc0eb20eddeb8f2a7", func := "ricochet/ricochetlaw10.EntityBack", spec := "entityBack", unfollowed := true, recurses := true, apart := false, narrowed := true }
def EntityBackUptoSaid : Prop := entityBackUptoRow.holds Try.pinned (OpenSpec.upto entityBackSpec)

/-- 'ricochetlaw17.DeltaEncodes', WHERE WHAT IT READS IS OF BULK AT MOST 1048576: true; the input reads as it did. -/
def deltaEncodesUptoRow : OpenClaim := { program := "ytfcncmhcmbghpaa", sum := "4efa6bb5e467d8000a225a395ebdc4ae9f3bac70e13f7e1dc0eb20eddeb8f2a7", func := "ricochet/ricochetlaw17.DeltaEncodes", spec := "deltaEncodes", unfollowed := true, recurses := true, apart := false, narrowed := true }
def DeltaEncodesUptoSaid : Prop := deltaEncodesUptoRow.holds Try.pinned (OpenSpec.upto deltaEncodesSpec)

/-- 'ricochetlaw17.DeltaDecodes', WHERE WHAT IT READS IS OF BULK AT MOST 1048576: true; the input reads as it did. -/
def deltaDecodesUptoRow : OpenClaim := { program := "ytfcncmhcmbghpaa", sum := "4efa6bb5e467d8000a225a395ebdc4ae9f3bac70e13f7e1dc0eb20eddeb8f2a7", func := "ricochet/ricochetlaw17.DeltaDecodes", spec := "deltaDecodes", unfollowed := true, recurses := true, apart := false, narrowed := true }
def DeltaDecodesUptoSaid : Prop := deltaDecodesUptoRow.holds Try.pinned (OpenSpec.upto deltaDecodesSpec)

/-- 'ricochetlaw17.DeltaBack', WHERE WHAT IT READS IS OF BULK AT MOST 1048576: true; the input reads as it did. -/
def deltaBackUptoRow : OpenClaim := { program := "ytfcncmhcmbghpaa", sum := "4efa6bb5e467d8000a225a395ebdc4ae9f3bac70e13f7e1dc0eb20eddeb8f2a7", func := "ricochet/ricochetlaw17.DeltaBack", spec := "deltaBack", unfollowed := true, recurses := true, apart := false, narrowed := true }
def DeltaBackUptoSaid : Prop := deltaBackUptoRow.holds Try.pinned (OpenSpec.upto deltaBackSpec)

/-- 'ricochetlaw17.DeltaCuts', WHERE WHAT IT READS IS OF BULK AT MOST 1048576: true; the input reads as it did. -/
def deltaCutsUptoRow : OpenClaim := { program := "ytfcncmhcmbghpaa", sum := "4efa6bb5e467d8000a225a395ebdc4ae9f3bac70e13f7e1dc0eb20eddeb8f2a7", func := "ricochet/ricochetlaw17.DeltaCuts", spec := "deltaCuts", unfollowed := true, recurses := true, apart := false, narrowed := true }
def DeltaCutsUptoSaid : Prop := deltaCutsUptoRow.holds Try.pinned (OpenSpec.upto deltaCutsSpec)

/-- 'ricochetlaw17.DeltaElse', WHERE WHAT IT READS IS OF BULK AT MOST 1048576: true; the input reads as it did. -/
def deltaElseUptoRow : OpenClaim := { program := "ytfcncmhcmbghpaa", sum := "4efa6bb5e467d8000a225a395ebdc4ae9f3bac70e13f7e1dc0eb20eddeb8f2a7", func := "ricochet/ricochetlaw17.DeltaElse", spec := "deltaElse", unfollowed := true, recurses := true, apart := false, narrowed := true }
def DeltaElseUptoSaid : Prop := deltaElseUptoRow.holds Try.pinned (OpenSpec.upto deltaElseSpec)

end Rows
end Go.Proofs.Ytfcncmhcmbghpaa
