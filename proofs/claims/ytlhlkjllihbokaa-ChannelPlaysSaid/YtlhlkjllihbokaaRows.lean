/-
  No cell of these rows narrows 'for every input' (looked for: loops, veiled, ifaces, maps, wideKeys, modest, calm, conditions, laid).
  DERIVED. THE GIVEN ROWS OF THIS SEAT. 9 by the template 'for every input the law returns true; each argument reads behind the call as it read before'; 0 by the template 'total and deterministic' (their statements: YtlhlkjllihbokaaTotals.lean).
  GIVEN WITH THE SEED: the statements are not yours to turn. If you find one false, say at which input.
  Laid BY PROGRAM, IN A SANDBOX (cutbox-rows.mjs): the forced cells as the released guide's own fill.sh prints them over the translation 8437f049fc657c8b… (all of the seat's roots in one cut). By AI agents, Wed Nov 11 2026. No macro, syntax, notation, axiom, sorry.
-/
import Derived.Test.YtlhlkjllihbokaaChecked
import GoSem.Claim
import GoSem.ClaimJoined
import GoSem.ClaimMapViews
import Derived.JoinedTies
import Derived.KernelRfl
namespace Go.Proofs.Ytlhlkjllihbokaa
/- THE CELL 'sum', in the pinned program and in every row, IS THE sha256 OF THE DUMP (.gsa) THAT YtlhlkjllihbokaaProg.lean LOADS. Nothing in Lean hashes anything: it is a label: what it is worth is what the hold of that sum in a sandbox is worth. -/
noncomputable def Try.pinned : Pinned := { name := "ytlhlkjllihbokaa", sum := "8437f049fc657c8b2a184147a6d4ddce4af9f026fd324197466dd2aa142432f4", checked := Try.checked }
namespace Rows
def none {H : Type} : Left H := { results := [], args := [] }

/-- 'ricochetlaw04.SerialSteps': WHATEVER THE INPUT: true; the input reads as it did. -/
def serialStepsSpec : ChangeSpec := { name := "serialSteps", fn := fun _ => fun
  | [d1, d2] => { results := [.lit (.bool true)], args := [d1, d2] }
  | _ => none }
def serialStepsRow : OpenClaim := { program := "ytlhlkjllihbokaa", sum := "8437f049fc657c8b2a184147a6d4ddce4af9f026fd324197466dd2aa142432f4", func := "ricochet/ricochetlaw04.SerialSteps", spec := "serialSteps", apart := false }
def SerialStepsSaid : Prop := serialStepsRow.holds Try.pinned (OpenSpec.ofChange serialStepsSpec)

/-- ITS FALSE NEIGHBOUR: 'it returns false'. Refute it at one input. -/
def serialStepsWrong : ChangeSpec := { name := "serialSteps", fn := fun _ => fun
  | [d1, d2] => { results := [.lit (.bool false)], args := [d1, d2] }
  | _ => none }
def SerialStepsWrongFalsely : Prop := serialStepsRow.holds Try.pinned (OpenSpec.ofChange serialStepsWrong)

/-- 'ricochetlaw04.SerialTurns': WHATEVER THE INPUT: true; the input reads as it did. -/
def serialTurnsSpec : ChangeSpec := { name := "serialTurns", fn := fun _ => fun
  | [d1, d2, d3] => { results := [.lit (.bool true)], args := [d1, d2, d3] }
  | _ => none }
def serialTurnsRow : OpenClaim := { program := "ytlhlkjllihbokaa", sum := "8437f049fc657c8b2a184147a6d4ddce4af9f026fd324197466dd2aa142432f4", func := "ricochet/ricochetlaw04.SerialTurns", spec := "serialTurns", apart := false }
def SerialTurnsSaid : Prop := serialTurnsRow.holds Try.pinned (OpenSpec.ofChange serialTurnsSpec)

/-- ITS FALSE NEIGHBOUR: 'it returns false'. Refute it at one input. -/
def serialTurnsWrong : ChangeSpec := { name := "serialTurns", fn := fun _ => fun
  | [d1, d2, d3] => { results := [.lit (.bool false)], args := [d1, d2, d3] }
  | _ => none }
def SerialTurnsWrongFalsely : Prop := serialTurnsRow.holds Try.pinned (OpenSpec.ofChange serialTurnsWrong)

/-- 'ricochetlaw04.SerialOnce': WHATEVER THE INPUT: true; the input reads as it did. -/
def serialOnceSpec : ChangeSpec := { name := "serialOnce", fn := fun _ => fun
  | [d1, d2] => { results := [.lit (.bool true)], args := [d1, d2] }
  | _ => none }
def serialOnceRow : OpenClaim := { program := "ytlhlkjllihbokaa", sum := "8437f049fc657c8b2a184147a6d4ddce4af9f026fd324197466dd2aa142432f4", func := "ricochet/ricochetlaw04.SerialOnce", spec := "serialOnce", apart := false }
def SerialOnceSaid : Prop := serialOnceRow.holds Try.pinned (OpenSpec.ofChange serialOnceSpec)

/-- ITS FALSE NEIGHBOUR: 'it returns false'. Refute it at one input. -/
def serialOnceWrong : ChangeSpec := { name := "serialOnce", fn := fun _ => fun
  | [d1, d2] => { results := [.lit (.bool false)], args := [d1, d2] }
  | _ => none }
def SerialOnceWrongFalsely : Prop := serialOnceRow.holds Try.pinned (OpenSpec.ofChange serialOnceWrong)

/-- 'ricochetlaw04.SerialRow': WHATEVER THE INPUT: true; the input reads as it did. -/
def serialRowSpec : ChangeSpec := { name := "serialRow", fn := fun _ => fun
  | [d1, d2] => { results := [.lit (.bool true)], args := [d1, d2] }
  | _ => none }
def serialRowRow : OpenClaim := { program := "ytlhlkjllihbokaa", sum := "8437f049fc657c8b2a184147a6d4ddce4af9f026fd324197466dd2aa142432f4", func := "ricochet/ricochetlaw04.SerialRow", spec := "serialRow", apart := false }
def SerialRowSaid : Prop := serialRowRow.holds Try.pinned (OpenSpec.ofChange serialRowSpec)

/-- ITS FALSE NEIGHBOUR: 'it returns false'. Refute it at one input. -/
def serialRowWrong : ChangeSpec := { name := "serialRow", fn := fun _ => fun
  | [d1, d2] => { results := [.lit (.bool false)], args := [d1, d2] }
  | _ => none }
def SerialRowWrongFalsely : Prop := serialRowRow.holds Try.pinned (OpenSpec.ofChange serialRowWrong)

/-- 'ricochetlaw14.ChannelTwo': WHATEVER THE INPUT: true; the input reads as it did. -/
def channelTwoSpec : ChangeSpec := { name := "channelTwo", fn := fun _ => fun
  | [d] => { results := [.lit (.bool true)], args := [d] }
  | _ => none }
def channelTwoRow : OpenClaim := { program := "ytlhlkjllihbokaa", sum := "8437f049fc657c8b2a184147a6d4ddce4af9f026fd324197466dd2aa142432f4", func := "ricochet/ricochetlaw14.ChannelTwo", spec := "channelTwo", unfollowed := true, recurses := true, apart := false }
def ChannelTwoSaid : Prop := channelTwoRow.holds Try.pinned (OpenSpec.ofChange channelTwoSpec)

/-- ITS FALSE NEIGHBOUR: 'it returns false'. Refute it at one input. -/
def channelTwoWrong : ChangeSpec := { name := "channelTwo", fn := fun _ => fun
  | [d] => { results := [.lit (.bool false)], args := [d] }
  | _ => none }
def ChannelTwoWrongFalsely : Prop := channelTwoRow.holds Try.pinned (OpenSpec.ofChange channelTwoWrong)

/-- 'ricochetlaw14.ChannelCalm': WHATEVER THE INPUT: true; the input reads as it did. -/
def channelCalmSpec : ChangeSpec := { name := "channelCalm", fn := fun _ => fun
  | [d1, d2] => { results := [.lit (.bool true)], args := [d1, d2] }
  | _ => none }
def channelCalmRow : OpenClaim := { program := "ytlhlkjllihbokaa", sum := "8437f049fc657c8b2a184147a6d4ddce4af9f026fd324197466dd2aa142432f4", func := "ricochet/ricochetlaw14.ChannelCalm", spec := "channelCalm", unfollowed := true, recurses := true, apart := false }
def ChannelCalmSaid : Prop := channelCalmRow.holds Try.pinned (OpenSpec.ofChange channelCalmSpec)

/-- ITS FALSE NEIGHBOUR: 'it returns false'. Refute it at one input. -/
def channelCalmWrong : ChangeSpec := { name := "channelCalm", fn := fun _ => fun
  | [d1, d2] => { results := [.lit (.bool false)], args := [d1, d2] }
  | _ => none }
def ChannelCalmWrongFalsely : Prop := channelCalmRow.holds Try.pinned (OpenSpec.ofChange channelCalmWrong)

/-- 'ricochetlaw14.ChannelBits': WHATEVER THE INPUT: true; the input reads as it did. -/
def channelBitsSpec : ChangeSpec := { name := "channelBits", fn := fun _ => fun
  | [d1, d2] => { results := [.lit (.bool true)], args := [d1, d2] }
  | _ => none }
def channelBitsRow : OpenClaim := { program := "ytlhlkjllihbokaa", sum := "8437f049fc657c8b2a184147a6d4ddce4af9f026fd324197466dd2aa142432f4", func := "ricochet/ricochetlaw14.ChannelBits", spec := "channelBits", apart := false }
def ChannelBitsSaid : Prop := channelBitsRow.holds Try.pinned (OpenSpec.ofChange channelBitsSpec)

/-- ITS FALSE NEIGHBOUR: 'it returns false'. Refute it at one input. -/
def channelBitsWrong : ChangeSpec := { name := "channelBits", fn := fun _ => fun
  | [d1, d2] => { results := [.lit (.bool false)], args := [d1, d2] }
  | _ => none }
def ChannelBitsWrongFalsely : Prop := channelBitsRow.holds Try.pinned (OpenSpec.ofChange channelBitsWrong)

/-- 'ricochetlaw14.ChannelPlays': WHATEVER THE INPUT: true; the input reads as it did. -/
def channelPlaysSpec : ChangeSpec := { name := "channelPlays", fn := fun _ => fun
  | [d] => { results := [.lit (.bool true)], args := [d] }
  | _ => none }
def channelPlaysRow : OpenClaim := { program := "ytlhlkjllihbokaa", sum := "8437f049fc657c8b2a184147a6d4ddce4af9f026fd324197466dd2aa142432f4", func := "ricochet/ricochetlaw14.ChannelPlays", spec := "channelPlays", unfollowed := true, recurses := true, apart := false }
def ChannelPlaysSaid : Prop := channelPlaysRow.holds Try.pinned (OpenSpec.ofChange channelPlaysSpec)

/-- ITS FALSE NEIGHBOUR: 'it returns false'. Refute it at one input. -/
def channelPlaysWrong : ChangeSpec := { name := "channelPlays", fn := fun _ => fun
  | [d] => { results := [.lit (.bool false)], args := [d] }
  | _ => none }
def ChannelPlaysWrongFalsely : Prop := channelPlaysRow.holds Try.pinned (OpenSpec.ofChange channelPlaysWrong)

/-- 'ricochetlaw14.ChannelNil': WHATEVER THE INPUT: true; the input reads as it did. -/
def channelNilSpec : ChangeSpec := { name := "channelNil", fn := fun _ => fun
  | [d] => { results := [.lit (.bool true)], args := [d] }
  | _ => none }
def channelNilRow : OpenClaim := { program := "ytlhlkjllihbokaa", sum := "8437f049fc657c8b2a184147a6d4ddce4af9f026fd324197466dd2aa142432f4", func := "ricochet/ricochetlaw14.ChannelNil", spec := "channelNil", unfollowed := true, recurses := true, apart := false }
def ChannelNilSaid : Prop := channelNilRow.holds Try.pinned (OpenSpec.ofChange channelNilSpec)

/-- ITS FALSE NEIGHBOUR: 'it returns false'. Refute it at one input. -/
def channelNilWrong : ChangeSpec := { name := "channelNil", fn := fun _ => fun
  | [d] => { results := [.lit (.bool false)], args := [d] }
  | _ => none }
def ChannelNilWrongFalsely : Prop := channelNilRow.holds Try.pinned (OpenSpec.ofChange channelNilWrong)

/- THE SECOND FORM. 'bulk': how many values and letters a reading holds, each counted each time it is reached (what is shared counts as often as it is met; a slice's spare places count too). A statement '..UptoSaid' is the law's where the arguments, and the package variables that the reading takes, are together of bulk at most 1048576: NARROWER than '..Said'. Prove '..Said' where nothing that the law and all that it calls make is longer than what came in: it says more and counts as full. Else prove '..UptoSaid'. A law counts once. -/
mutual
def uptoBulk {H : Type} : DataW H → Nat
  | .lit (.string bytes) => bytes.length + 1
  | .lit _ => 1
  | .nil => 1
  | .ptr d => uptoBulk d + 1
  | .slice elems spare => uptoBulkAll elems + uptoBulkAll spare + 1
  | .agg parts => uptoBulkAll parts + 1
  | .iface _ d => uptoBulk d + 1
  | .map entries => uptoBulkEntries entries + 1
  | .held _ => 1
def uptoBulkAll {H : Type} : List (DataW H) → Nat
  | [] => 0
  | d :: r => uptoBulk d + uptoBulkAll r
def uptoBulkEntries {H : Type} : List (Lit × DataW H) → Nat
  | [] => 0
  | x :: r => uptoBulkEntry x + uptoBulkEntries r
def uptoBulkEntry {H : Type} : Lit × DataW H → Nat
  | (.string bytes, d) => bytes.length + uptoBulk d + 1
  | (_, d) => uptoBulk d + 1
 end
def uptoSmall : (H : Type) → List (DataW H) → Bool := fun _ ds => decide (uptoBulkAll ds ≤ 1048576)
def OpenSpec.upto (s : _root_.Go.ChangeSpec) : _root_.Go.OpenSpec := { _root_.Go.OpenSpec.ofChange s with cond := some uptoSmall }

/-- 'ricochetlaw04.SerialSteps', WHERE WHAT IT READS IS OF BULK AT MOST 1048576: true; the input reads as it did. -/
def serialStepsUptoRow : OpenClaim := { program := "ytlhlkjllihbokaa", sum := "8437f049fc657c8b2a184147a6d4ddce4af9f026fd324197466dd2aa142432f4", func := "ricochet/ricochetlaw04.SerialSteps", spec := "serialSteps", apart := false, narrowed := true }
def SerialStepsUptoSaid : Prop := serialStepsUptoRow.holds Try.pinned (OpenSpec.upto serialStepsSpec)

/-- 'ricochetlaw04.SerialTurns', WHERE WHAT IT READS IS OF BULK AT MOST 1048576: true; the input reads as it did. -/
def serialTurnsUptoRow : OpenClaim := { program := "ytlhlkjllihbokaa", sum := "8437f049fc657c8b2a184147a6d4ddce4af9f026fd324197466dd2aa142432f4", func := "ricochet/ricochetlaw04.SerialTurns", spec := "serialTurns", apart := false, narrowed := true }
def SerialTurnsUptoSaid : Prop := serialTurnsUptoRow.holds Try.pinned (OpenSpec.upto serialTurnsSpec)

/-- 'ricochetlaw04.SerialOnce', WHERE WHAT IT READS IS OF BULK AT MOST 1048576: true; the input reads as it did. -/
def serialOnceUptoRow : OpenClaim := { program := "ytlhlkjllihbokaa", sum := "8437f049fc657c8b2a184147a6d4ddce4af9f026fd324197466dd2aa142432f4", func := "ricochet/ricochetlaw04.SerialOnce", spec := "serialOnce", apart := false, narrowed := true }
def SerialOnceUptoSaid : Prop := serialOnceUptoRow.holds Try.pinned (OpenSpec.upto serialOnceSpec)

/-- 'ricochetlaw04.SerialRow', WHERE WHAT IT READS IS OF BULK AT MOST 1048576: true; the input reads as it did. -/
def serialRowUptoRow : OpenClaim := { program := "ytlhlkjllihbokaa", sum := "8437f049fc657c8b2a184147a6d4ddce4af9f026fd324197466dd2aa142432f4", func := "ricochet/ricochetlaw04.SerialRow", spec := "serialRow", apart := false, narrowed := true }
def SerialRowUptoSaid : Prop := serialRowUptoRow.holds Try.pinned (OpenSpec.upto serialRowSpec)

/-- 'ricochetlaw14.ChannelTwo', WHERE WHAT IT READS IS OF BULK AT MOST 1048576: true; the input reads as it did. -/
def channelTwoUptoRow : OpenClaim := { program := "ytlhlkjllihbokaa", sum := "8437f049fc657c8b2a184147a6d4ddce4af9f026fd324197466dd2aa142432f4", func := "ricochet/ricochetlaw14.ChannelTwo", spec := "channelTwo", unfollowed := true, recurses := true, apart := false, narrowed := true }
def ChannelTwoUptoSaid : Prop := channelTwoUptoRow.holds Try.pinned (OpenSpec.upto channelTwoSpec)

/-- 'ricochetlaw14.ChannelCalm', WHERE WHAT IT READS IS OF BULK AT MOST 1048576: true; the input reads as it did. -/
def channelCalmUptoRow : OpenClaim := { program := "ytlhlkjllihbokaa", sum := "8437f049fc657c8b2a184147a6d4ddce4af9f026fd324197466dd2aa142432f4", func := "ricochet/ricochetlaw14.ChannelCalm", spec := "channelCalm", unfollowed := true, recurses := true, apart := false, narrowed := true }
def ChannelCalmUptoSaid : Prop := channelCalmUptoRow.holds Try.pinned (OpenSpec.upto channelCalmSpec)

/-- 'ricochetlaw14.ChannelBits', WHERE WHAT IT READS IS OF BULK AT MOST 1048576: true; the input reads as it did. -/
def channelBitsUptoRow : OpenClaim := { program := "ytlhlkjllihbokaa", sum := "8437f049fc657c8b2a184147a6d4ddce4af9f026fd324197466dd2aa142432f4", func := "ricochet/ricochetlaw14.ChannelBits", spec := "channelBits", apart := false, narrowed := true }
def ChannelBitsUptoSaid : Prop := channelBitsUptoRow.holds Try.pinned (OpenSpec.upto channelBitsSpec)

/-- 'ricochetlaw14.ChannelPlays', WHERE WHAT IT READS IS OF BULK AT MOST 1048576: true; the input reads as it did. -/
def channelPlaysUptoRow : OpenClaim := { program := "ytlhlkjllihbokaa", sum := "8437f049fc657c8b2a184147a6d4ddce4af9f026fd324197466dd2aa142432f4", func := "ricochet/ricochetlaw14.ChannelPlays", spec := "channelPlays", unfollowed := true, recurses := true, apart := false, narrowed := true }
def ChannelPlaysUptoSaid : Prop := channelPlaysUptoRow.holds Try.pinned (OpenSpec.upto channelPlaysSpec)

/-- 'ricochetlaw14.ChannelNil', WHERE WHAT IT READS IS OF BULK AT MOST 1048576: true; the input reads as it did. -/
def channelNilUptoRow : OpenClaim := { program := "ytlhlkjllihbokaa", sum := "8437f049fc657c8b2a184147a6d4ddce4af9f026fd324197466dd2aa142432f4", func := "ricochet/ricochetlaw14.ChannelNil", spec := "channelNil", unfollowed := true, recurses := true, apart := false, narrowed := true }
def ChannelNilUptoSaid : Prop := channelNilUptoRow.holds Try.pinned (OpenSpec.upto channelNilSpec)

end Rows
end Go.Proofs.Ytlhlkjllihbokaa
