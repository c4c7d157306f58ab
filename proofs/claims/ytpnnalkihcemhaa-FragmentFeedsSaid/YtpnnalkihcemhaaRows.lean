/-
  No cell of these rows narrows 'for every input' (looked for: loops, veiled, ifaces, maps, wideKeys, modest, calm, conditions, laid).
  DERIVED. THE GIVEN ROWS OF THIS SEAT. 11 by the template 'for every input the law returns true; each argument reads behind the call as it read before'; 0 by the template 'total and deterministic' (their statements: YtpnnalkihcemhaaTotals.lean).
  GIVEN WITH THE SEED: the statements are not yours to turn. If you find one false, say at which input.
  Laid BY PROGRAM, IN A SANDBOX (cutbox-rows.mjs): the forced cells as the released guide's own fill.sh prints them over the translation e856d10266a8d498… (all of the seat's roots in one cut). By AI agents, Wed Nov 11 2026. No macro, syntax, notation, axiom, sorry.
-/
import Derived.Test.YtpnnalkihcemhaaChecked
import GoSem.Claim
import GoSem.ClaimJoined
import GoSem.ClaimMapViews
import Derived.JoinedTies
import Derived.KernelRfl
namespace Go.Proofs.Ytpnnalkihcemhaa
/- THE CELL 'sum', in the pinned program and in every row, IS THE sha256 OF THE DUMP (.gsa) THAT YtpnnalkihcemhaaProg.lean LOADS. Nothing in Lean hashes anything: it is a label: what it is worth is what the hold of that sum in a sandbox is worth. -/
noncomputable def Try.pinned : Pinned := { name := "ytpnnalkihcemhaa", sum := "e856d10266a8d49807198096ae853255236a54a7dfcb4cb170a08380f41f2522", checked := Try.checked }
namespace Rows
def none {H : Type} : Left H := { results := [], args := [] }

/-- 'ricochetlaw15.FragmentSplits': WHATEVER THE INPUT: true; the input reads as it did. -/
def fragmentSplitsSpec : ChangeSpec := { name := "fragmentSplits", fn := fun _ => fun
  | [d1, d2] => { results := [.lit (.bool true)], args := [d1, d2] }
  | _ => none }
def fragmentSplitsRow : OpenClaim := { program := "ytpnnalkihcemhaa", sum := "e856d10266a8d49807198096ae853255236a54a7dfcb4cb170a08380f41f2522", func := "ricochet/ricochetlaw15.FragmentSplits", spec := "fragmentSplits", apart := false }
def FragmentSplitsSaid : Prop := fragmentSplitsRow.holds Try.pinned (OpenSpec.ofChange fragmentSplitsSpec)

/-- ITS FALSE NEIGHBOUR: 'it returns false'. Refute it at one input. -/
def fragmentSplitsWrong : ChangeSpec := { name := "fragmentSplits", fn := fun _ => fun
  | [d1, d2] => { results := [.lit (.bool false)], args := [d1, d2] }
  | _ => none }
def FragmentSplitsWrongFalsely : Prop := fragmentSplitsRow.holds Try.pinned (OpenSpec.ofChange fragmentSplitsWrong)

/-- 'ricochetlaw15.FragmentSizes': WHATEVER THE INPUT: true; the input reads as it did. -/
def fragmentSizesSpec : ChangeSpec := { name := "fragmentSizes", fn := fun _ => fun
  | [d] => { results := [.lit (.bool true)], args := [d] }
  | _ => none }
def fragmentSizesRow : OpenClaim := { program := "ytpnnalkihcemhaa", sum := "e856d10266a8d49807198096ae853255236a54a7dfcb4cb170a08380f41f2522", func := "ricochet/ricochetlaw15.FragmentSizes", spec := "fragmentSizes", apart := false }
def FragmentSizesSaid : Prop := fragmentSizesRow.holds Try.pinned (OpenSpec.ofChange fragmentSizesSpec)

/-- ITS FALSE NEIGHBOUR: 'it returns false'. Refute it at one input. -/
def fragmentSizesWrong : ChangeSpec := { name := "fragmentSizes", fn := fun _ => fun
  | [d] => { results := [.lit (.bool false)], args := [d] }
  | _ => none }
def FragmentSizesWrongFalsely : Prop := fragmentSizesRow.holds Try.pinned (OpenSpec.ofChange fragmentSizesWrong)

/-- 'ricochetlaw15.FragmentFeeds': WHATEVER THE INPUT: true; the input reads as it did. -/
def fragmentFeedsSpec : ChangeSpec := { name := "fragmentFeeds", fn := fun _ => fun
  | [d1, d2] => { results := [.lit (.bool true)], args := [d1, d2] }
  | _ => none }
def fragmentFeedsRow : OpenClaim := { program := "ytpnnalkihcemhaa", sum := "e856d10266a8d49807198096ae853255236a54a7dfcb4cb170a08380f41f2522", func := "ricochet/ricochetlaw15.FragmentFeeds", spec := "fragmentFeeds", unfollowed := true, recurses := true, apart := false }
def FragmentFeedsSaid : Prop := fragmentFeedsRow.holds Try.pinned (OpenSpec.ofChange fragmentFeedsSpec)

/-- ITS FALSE NEIGHBOUR: 'it returns false'. Refute it at one input. -/
def fragmentFeedsWrong : ChangeSpec := { name := "fragmentFeeds", fn := fun _ => fun
  | [d1, d2] => { results := [.lit (.bool false)], args := [d1, d2] }
  | _ => none }
def FragmentFeedsWrongFalsely : Prop := fragmentFeedsRow.holds Try.pinned (OpenSpec.ofChange fragmentFeedsWrong)

/-- 'ricochetlaw15.FragmentWhole': WHATEVER THE INPUT: true; the input reads as it did. -/
def fragmentWholeSpec : ChangeSpec := { name := "fragmentWhole", fn := fun _ => fun
  | [d1, d2] => { results := [.lit (.bool true)], args := [d1, d2] }
  | _ => none }
def fragmentWholeRow : OpenClaim := { program := "ytpnnalkihcemhaa", sum := "e856d10266a8d49807198096ae853255236a54a7dfcb4cb170a08380f41f2522", func := "ricochet/ricochetlaw15.FragmentWhole", spec := "fragmentWhole", unfollowed := true, recurses := true, apart := false }
def FragmentWholeSaid : Prop := fragmentWholeRow.holds Try.pinned (OpenSpec.ofChange fragmentWholeSpec)

/-- ITS FALSE NEIGHBOUR: 'it returns false'. Refute it at one input. -/
def fragmentWholeWrong : ChangeSpec := { name := "fragmentWhole", fn := fun _ => fun
  | [d1, d2] => { results := [.lit (.bool false)], args := [d1, d2] }
  | _ => none }
def FragmentWholeWrongFalsely : Prop := fragmentWholeRow.holds Try.pinned (OpenSpec.ofChange fragmentWholeWrong)

/-- 'ricochetlaw15.FragmentNil': WHATEVER THE INPUT: true; the input reads as it did. -/
def fragmentNilSpec : ChangeSpec := { name := "fragmentNil", fn := fun _ => fun
  | [d] => { results := [.lit (.bool true)], args := [d] }
  | _ => none }
def fragmentNilRow : OpenClaim := { program := "ytpnnalkihcemhaa", sum := "e856d10266a8d49807198096ae853255236a54a7dfcb4cb170a08380f41f2522", func := "ricochet/ricochetlaw15.FragmentNil", spec := "fragmentNil", unfollowed := true, recurses := true, apart := false }
def FragmentNilSaid : Prop := fragmentNilRow.holds Try.pinned (OpenSpec.ofChange fragmentNilSpec)

/-- ITS FALSE NEIGHBOUR: 'it returns false'. Refute it at one input. -/
def fragmentNilWrong : ChangeSpec := { name := "fragmentNil", fn := fun _ => fun
  | [d] => { results := [.lit (.bool false)], args := [d] }
  | _ => none }
def FragmentNilWrongFalsely : Prop := fragmentNilRow.holds Try.pinned (OpenSpec.ofChange fragmentNilWrong)

/-- 'ricochetlaw15.FragmentTwice': WHATEVER THE INPUT: true; the input reads as it did. -/
def fragmentTwiceSpec : ChangeSpec := { name := "fragmentTwice", fn := fun _ => fun
  | [d1, d2] => { results := [.lit (.bool true)], args := [d1, d2] }
  | _ => none }
def fragmentTwiceRow : OpenClaim := { program := "ytpnnalkihcemhaa", sum := "e856d10266a8d49807198096ae853255236a54a7dfcb4cb170a08380f41f2522", func := "ricochet/ricochetlaw15.FragmentTwice", spec := "fragmentTwice", unfollowed := true, recurses := true, apart := false }
def FragmentTwiceSaid : Prop := fragmentTwiceRow.holds Try.pinned (OpenSpec.ofChange fragmentTwiceSpec)

/-- ITS FALSE NEIGHBOUR: 'it returns false'. Refute it at one input. -/
def fragmentTwiceWrong : ChangeSpec := { name := "fragmentTwice", fn := fun _ => fun
  | [d1, d2] => { results := [.lit (.bool false)], args := [d1, d2] }
  | _ => none }
def FragmentTwiceWrongFalsely : Prop := fragmentTwiceRow.holds Try.pinned (OpenSpec.ofChange fragmentTwiceWrong)

/-- 'ricochetlaw16.StreamSends': WHATEVER THE INPUT: true; the input reads as it did. -/
def streamSendsSpec : ChangeSpec := { name := "streamSends", fn := fun _ => fun
  | [d] => { results := [.lit (.bool true)], args := [d] }
  | _ => none }
def streamSendsRow : OpenClaim := { program := "ytpnnalkihcemhaa", sum := "e856d10266a8d49807198096ae853255236a54a7dfcb4cb170a08380f41f2522", func := "ricochet/ricochetlaw16.StreamSends", spec := "streamSends", apart := false }
def StreamSendsSaid : Prop := streamSendsRow.holds Try.pinned (OpenSpec.ofChange streamSendsSpec)

/-- ITS FALSE NEIGHBOUR: 'it returns false'. Refute it at one input. -/
def streamSendsWrong : ChangeSpec := { name := "streamSends", fn := fun _ => fun
  | [d] => { results := [.lit (.bool false)], args := [d] }
  | _ => none }
def StreamSendsWrongFalsely : Prop := streamSendsRow.holds Try.pinned (OpenSpec.ofChange streamSendsWrong)

/-- 'ricochetlaw16.StreamTakes': WHATEVER THE INPUT: true; the input reads as it did. -/
def streamTakesSpec : ChangeSpec := { name := "streamTakes", fn := fun _ => fun
  | [d] => { results := [.lit (.bool true)], args := [d] }
  | _ => none }
def streamTakesRow : OpenClaim := { program := "ytpnnalkihcemhaa", sum := "e856d10266a8d49807198096ae853255236a54a7dfcb4cb170a08380f41f2522", func := "ricochet/ricochetlaw16.StreamTakes", spec := "streamTakes", apart := false }
def StreamTakesSaid : Prop := streamTakesRow.holds Try.pinned (OpenSpec.ofChange streamTakesSpec)

/-- ITS FALSE NEIGHBOUR: 'it returns false'. Refute it at one input. -/
def streamTakesWrong : ChangeSpec := { name := "streamTakes", fn := fun _ => fun
  | [d] => { results := [.lit (.bool false)], args := [d] }
  | _ => none }
def StreamTakesWrongFalsely : Prop := streamTakesRow.holds Try.pinned (OpenSpec.ofChange streamTakesWrong)

/-- 'ricochetlaw16.StreamTwo': WHATEVER THE INPUT: true; the input reads as it did. -/
def streamTwoSpec : ChangeSpec := { name := "streamTwo", fn := fun _ => fun
  | [d] => { results := [.lit (.bool true)], args := [d] }
  | _ => none }
def streamTwoRow : OpenClaim := { program := "ytpnnalkihcemhaa", sum := "e856d10266a8d49807198096ae853255236a54a7dfcb4cb170a08380f41f2522", func := "ricochet/ricochetlaw16.StreamTwo", spec := "streamTwo", apart := false }
def StreamTwoSaid : Prop := streamTwoRow.holds Try.pinned (OpenSpec.ofChange streamTwoSpec)

/-- ITS FALSE NEIGHBOUR: 'it returns false'. Refute it at one input. -/
def streamTwoWrong : ChangeSpec := { name := "streamTwo", fn := fun _ => fun
  | [d] => { results := [.lit (.bool false)], args := [d] }
  | _ => none }
def StreamTwoWrongFalsely : Prop := streamTwoRow.holds Try.pinned (OpenSpec.ofChange streamTwoWrong)

/-- 'ricochetlaw16.StreamNil': WHATEVER THE INPUT: true; the input reads as it did. -/
def streamNilSpec : ChangeSpec := { name := "streamNil", fn := fun _ => fun
  | [d1, d2] => { results := [.lit (.bool true)], args := [d1, d2] }
  | _ => none }
def streamNilRow : OpenClaim := { program := "ytpnnalkihcemhaa", sum := "e856d10266a8d49807198096ae853255236a54a7dfcb4cb170a08380f41f2522", func := "ricochet/ricochetlaw16.StreamNil", spec := "streamNil", apart := false }
def StreamNilSaid : Prop := streamNilRow.holds Try.pinned (OpenSpec.ofChange streamNilSpec)

/-- ITS FALSE NEIGHBOUR: 'it returns false'. Refute it at one input. -/
def streamNilWrong : ChangeSpec := { name := "streamNil", fn := fun _ => fun
  | [d1, d2] => { results := [.lit (.bool false)], args := [d1, d2] }
  | _ => none }
def StreamNilWrongFalsely : Prop := streamNilRow.holds Try.pinned (OpenSpec.ofChange streamNilWrong)

/-- 'ricochetlaw16.StreamBounds': WHATEVER THE INPUT: true; the input reads as it did. -/
def streamBoundsSpec : ChangeSpec := { name := "streamBounds", fn := fun _ => fun
  | [d] => { results := [.lit (.bool true)], args := [d] }
  | _ => none }
def streamBoundsRow : OpenClaim := { program := "ytpnnalkihcemhaa", sum := "e856d10266a8d49807198096ae853255236a54a7dfcb4cb170a08380f41f2522", func := "ricochet/ricochetlaw16.StreamBounds", spec := "streamBounds", apart := false }
def StreamBoundsSaid : Prop := streamBoundsRow.holds Try.pinned (OpenSpec.ofChange streamBoundsSpec)

/-- ITS FALSE NEIGHBOUR: 'it returns false'. Refute it at one input. -/
def streamBoundsWrong : ChangeSpec := { name := "streamBounds", fn := fun _ => fun
  | [d] => { results := [.lit (.bool false)], args := [d] }
  | _ => none }
def StreamBoundsWrongFalsely : Prop := streamBoundsRow.holds Try.pinned (OpenSpec.ofChange streamBoundsWrong)

/- THE SECOND FORM. 'bulk': how many values and letters a reading holds, each counted each time it is reached (what is shared counts as often as it is met; a slice's spare places count too). A statement '..UptoSaid' is the law's where the arguments, and the package variables that the reading takes, are together of bulk at most 1048576: NARROWER than '..Said'. Prove '..Said' where nothing that the law and all that it calls make is longer than what came in: it says more and counts as full. Else prove '..UptoSaid'. A law counts once. -/
mutual
def uptoBulk {H : Type} : DataW H → Nat
  | .lit (.string bytes) => bytes.length + 1
  | .lit _ => 1
  | .nil => 1
  | .ptr d => uptoBulk d + 1
  | .slice elems spare => uptoBulkAll elems + uptoBulkAll spare + 1
  | .agg parts => uptoBulkAll parts + 1
  | .iface _ d => uptoBulk d + 1
  | .map entries => uptoBulkEntries entries + 1
  | .held _ => 1
def uptoBulkAll {H : Type} : List (DataW H) → Nat
  | [] => 0
  | d :: r => uptoBulk d + uptoBulkAll r
def uptoBulkEntries {H : Type} : List (Lit × DataW H) → Nat
  | [] => 0
  | x :: r => uptoBulkEntry x + uptoBulkEntries r
def uptoBulkEntry {H : Type} : Lit × DataW H → Nat
  | (.string bytes, d) => bytes.length + uptoBulk d + 1
  | (_, d) => uptoBulk d + 1
 end
def uptoSmall : (H : Type) → List (DataW H) → Bool := fun _ ds => decide (uptoBulkAll ds ≤ 1048576)
def OpenSpec.upto (s : _root_.Go.ChangeSpec) : _root_.Go.OpenSpec := { _root_.Go.OpenSpec.ofChange s with cond := some uptoSmall }

/-- 'ricochetlaw15.FragmentSplits', WHERE WHAT IT READS IS OF BULK AT MOST 1048576: true; the input reads as it did. -/
def fragmentSplitsUptoRow : OpenClaim := { program := "ytpnnalkihcemhaa", sum := "e856d10266a8d49807198096ae853255236a54a7dfcb4cb170a08380f41f2522", func := "ricochet/ricochetlaw15.FragmentSplits", spec := "fragmentSplits", apart := false, narrowed := true }
def FragmentSplitsUptoSaid : Prop := fragmentSplitsUptoRow.holds Try.pinned (OpenSpec.upto fragmentSplitsSpec)

/-- 'ricochetlaw15.FragmentSizes', WHERE WHAT IT READS IS OF BULK AT MOST 1048576: true; the input reads as it did. -/
def fragmentSizesUptoRow : OpenClaim := { program := "ytpnnalkihcemhaa", sum := "e856d10266a8d49807198096ae853255236a54a7dfcb4cb170a08380f41f2522", func := "ricochet/ricochetlaw15.FragmentSizes", spec := "fragmentSizes", apart := false, narrowed := true }
def FragmentSizesUptoSaid : Prop := fragmentSizesUptoRow.holds Try.pinned (OpenSpec.upto fragmentSizesSpec)

/-- 'ricochetlaw15.FragmentFeeds', WHERE WHAT IT READS IS OF BULK AT MOST 1048576: true; the input reads as it did. -/
def fragmentFeedsUptoRow : OpenClaim := { program := "ytpnnalkihcemhaa", sum := "e856d10266a8d49807198096ae853255236a54a7dfcb4cb170a08380f41f2522", func := "ricochet/ricochetlaw15.FragmentFeeds", spec := "fragmentFeeds", unfollowed := true, recurses := true, apart := false, narrowed := true }
def FragmentFeedsUptoSaid : Prop := fragmentFeedsUptoRow.holds Try.pinned (OpenSpec.upto fragmentFeedsSpec)

/-- 'ricochetlaw15.FragmentWhole', WHERE WHAT IT READS IS OF BULK AT MOST 1048576: true; the input reads as it did. -/
def fragmentWholeUptoRow : OpenClaim := { program := "ytpnnalkihcemhaa", sum := "e856d10266a8d49807198096ae853255236a54a7dfcb4cb170a08380f41f2522", func := "ricochet/ricochetlaw15.FragmentWhole", spec := "fragmentWhole", unfollowed := true, recurses := true, apart := false, narrowed := true }
def FragmentWholeUptoSaid : Prop := fragmentWholeUptoRow.holds Try.pinned (OpenSpec.upto fragmentWholeSpec)

/-- 'ricochetlaw15.FragmentNil', WHERE WHAT IT READS IS OF BULK AT MOST 1048576: true; the input reads as it did. -/
def fragmentNilUptoRow : OpenClaim := { program := "ytpnnalkihcemhaa", sum := "e856d10266a8d49807198096ae853255236a54a7dfcb4cb170a08380f41f2522", func := "ricochet/ricochetlaw15.FragmentNil", spec := "fragmentNil", unfollowed := true, recurses := true, apart := false, narrowed := true }
def FragmentNilUptoSaid : Prop := fragmentNilUptoRow.holds Try.pinned (OpenSpec.upto fragmentNilSpec)

/-- 'ricochetlaw15.FragmentTwice', WHERE WHAT IT READS IS OF BULK AT MOST 1048576: true; the input reads as it did. -/
def fragmentTwiceUptoRow : OpenClaim := { program := "ytpnnalkihcemhaa", sum := "e856d10266a8d49807198096ae853255236a54a7dfcb4cb170a08380f41f2522", func := "ricochet/ricochetlaw15.FragmentTwice", spec := "fragmentTwice", unfollowed := true, recurses := true, apart := false, narrowed := true }
def FragmentTwiceUptoSaid : Prop := fragmentTwiceUptoRow.holds Try.pinned (OpenSpec.upto fragmentTwiceSpec)

/-- 'ricochetlaw16.StreamSends', WHERE WHAT IT READS IS OF BULK AT MOST 1048576: true; the input reads as it did. -/
def streamSendsUptoRow : OpenClaim := { program := "ytpnnalkihcemhaa", sum := "e856d10266a8d49807198096ae853255236a54a7dfcb4cb170a08380f41f2522", func := "ricochet/ricochetlaw16.StreamSends", spec := "streamSends", apart := false, narrowed := true }
def StreamSendsUptoSaid : Prop := streamSendsUptoRow.holds Try.pinned (OpenSpec.upto streamSendsSpec)

/-- 'ricochetlaw16.StreamTakes', WHERE WHAT IT READS IS OF BULK AT MOST 1048576: true; the input reads as it did. -/
def streamTakesUptoRow : OpenClaim := { program := "ytpnnalkihcemhaa", sum := "e856d10266a8d49807198096ae853255236a54a7dfcb4cb170a08380f41f2522", func := "ricochet/ricochetlaw16.StreamTakes", spec := "streamTakes", apart := false, narrowed := true }
def StreamTakesUptoSaid : Prop := streamTakesUptoRow.holds Try.pinned (OpenSpec.upto streamTakesSpec)

/-- 'ricochetlaw16.StreamTwo', WHERE WHAT IT READS IS OF BULK AT MOST 1048576: true; the input reads as it did. -/
def streamTwoUptoRow : OpenClaim := { program := "ytpnnalkihcemhaa", sum := "e856d10266a8d49807198096ae853255236a54a7dfcb4cb170a08380f41f2522", func := "ricochet/ricochetlaw16.StreamTwo", spec := "streamTwo", apart := false, narrowed := true }
def StreamTwoUptoSaid : Prop := streamTwoUptoRow.holds Try.pinned (OpenSpec.upto streamTwoSpec)

/-- 'ricochetlaw16.StreamNil', WHERE WHAT IT READS IS OF BULK AT MOST 1048576: true; the input reads as it did. -/
def streamNilUptoRow : OpenClaim := { program := "ytpnnalkihcemhaa", sum := "e856d10266a8d49807198096ae853255236a54a7dfcb4cb170a08380f41f2522", func := "ricochet/ricochetlaw16.StreamNil", spec := "streamNil", apart := false, narrowed := true }
def StreamNilUptoSaid : Prop := streamNilUptoRow.holds Try.pinned (OpenSpec.upto streamNilSpec)

/-- 'ricochetlaw16.StreamBounds', WHERE WHAT IT READS IS OF BULK AT MOST 1048576: true; the input reads as it did. -/
def streamBoundsUptoRow : OpenClaim := { program := "ytpnnalkihcemhaa", sum := "e856d10266a8d49807198096ae853255236a54a7dfcb4cb170a08380f41f2522", func := "ricochet/ricochetlaw16.StreamBounds", spec := "streamBounds", apart := false, narrowed := true }
def StreamBoundsUptoSaid : Prop := streamBoundsUptoRow.holds Try.pinned (OpenSpec.upto streamBoundsSpec)

end Rows
end Go.Proofs.Ytpnnalkihcemhaa
