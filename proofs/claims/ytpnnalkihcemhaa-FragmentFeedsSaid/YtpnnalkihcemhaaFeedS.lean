/- What an assembler holds: messages that aren't whole; what a part makes of them. -/
import Derived.Test.YtpnnalkihcemhaaFeedH
set_option linter.unusedVariables false
set_option linter.unusedSimpArgs false
namespace Go.Proofs.Ytpnnalkihcemhaa.Frag
open Go.Sort Go.RowKit Go.Deep Go.Proofs.Ytpnnalkihcemhaa.Mem Go.Proofs.Ytpnnalkihcemhaa.Open Go.Proofs.Ytpnnalkihcemhaa.Num Go.Proofs.Ytpnnalkihcemhaa.Wr Go.Proofs.Ytpnnalkihcemhaa.Bits Go.Proofs.Ytpnnalkihcemhaa.Step Go.Proofs.YtpnnalkihcemhaaW.PrintWords

/-- A message that isn't whole: of each part that came its place and its bytes. -/
structure Msg where
  id : Int
  n : Int
  ps : List (Int × List Int)
def isMsg (h : PH) (m : Msg) : Bool := isM h.id h.n (m.id, m.n)
def joined (ps : List (Int × List Int)) (n : Nat) : List Int := (List.range n).flatMap fun (i : Nat) => ((ps.find? fun p => p.1 == (i : Int)).map (·.2)).getD []
/-- What is answered: the bytes where a message is whole, and the error. -/
structure Ans where
  out : Option (List Int)
  er : Int
def feedAt (l : List Msg) (k : Nat) (m : Msg) (h : PH) (b : List Int) : List Msg × Ans :=
  if (m.ps.any fun p => p.1 == (h.at_ : Int)) then (l, ⟨none, 8⟩)
  else if m.ps.length + 1 < h.n then (l.set k ⟨m.id, m.n, m.ps ++ [((h.at_ : Int), b)]⟩, ⟨none, 0⟩)
  else (l.eraseIdx k, ⟨some (joined (m.ps ++ [((h.at_ : Int), b)]) h.n), 0⟩)
def roomed (l : List Msg) : List Msg := if l.length = 4 then l.drop 1 else l
def feedA (l : List Msg) (bs : List Int) : List Msg × Ans :=
  if okPart bs = false then (l, ⟨none, 2⟩)
  else match l.findIdx? (isMsg (headOf bs)) with
    | some k => feedAt l k (l.getD k ⟨0, 0, []⟩) (headOf bs) (bs.drop 3)
    | none => feedAt (roomed l ++ [⟨(headOf bs).id, (headOf bs).n, []⟩]) (roomed l).length ⟨(headOf bs).id, (headOf bs).n, []⟩ (headOf bs) (bs.drop 3)

/-- The same in memory: of each part its slice beside. -/
structure MM where
  id : Int
  n : Int
  blk : Nat
  o : Obj
  ps : List (Int × Value × List Int)
def MM.key (x : MM) : (Int × Int) × Nat := ((x.id, x.n), x.blk)
def pent (p : Int × Value × List Int) : Ent := .rw p.2.1 5 1 p.2.2.length (nums .u8 p.2.2)
def MM.ents (x : MM) : List Ent := .ob x.blk x.o :: x.ps.map pent
def MM.wf (x : MM) : Prop := MapI Try.prog 3 x.o (x.ps.map fun p => (p.1, p.2.1))
def MM.abs (x : MM) : Msg := ⟨x.id, x.n, x.ps.map fun p => (p.1, p.2.2)⟩
def mrows (L : List MM) : List Value := rows3 ((L.map MM.key).map mcells)
def AS (W : World) (B : Nat) (w : World) (a : Nat) (L : List MM) (F : List Ent) : Prop :=
  (∀ x ∈ L, x.wf) ∧ ∃ v, Holds W B w (.st a [v] 41 :: .rw v 111 3 L.length (mrows L) :: (L.flatMap MM.ents ++ F))
theorem mrows_len (L : List MM) : (mrows L).length = L.length * 3 := by
  unfold mrows
  rw [rows3_len (mcells_three _), List.length_map, List.length_map]

/-- What holds of all messages: few parts, none too long, no place twice. -/
structure MsgOk' (m : Msg) : Prop where
  few : m.ps.length ≤ 14
  n0 : 0 < m.n
  n14 : m.n ≤ 14
  short : ∀ p ∈ m.ps, p.2.length ≤ 300
  keys : (m.ps.map (·.1)).Nodup
def AllOk (l : List Msg) : Prop := l.length ≤ 4 ∧ ∀ m ∈ l, MsgOk' m

/-- What Feed answers. -/
def FeedPost (W : World) (B : Nat) (a : Nat) (l : List Msg) (bs : List Int) (F : List Ent) (e' : Ending) (w' : World) : Prop :=
  ∃ L', L'.map MM.abs = (feedA l bs).1 ∧
    (((feedA l bs).2.out = none ∧ e' = .returned (.tuple #[.slice none 0 0, .bool false, .int .i64 (feedA l bs).2.er]) ∧ AS W B w' a L' F) ∨
     (∃ out vo, (feedA l bs).2.out = some out ∧ e' = .returned (.tuple #[vo, .bool true, .int .i64 (feedA l bs).2.er]) ∧ AS W B w' a L' (.rw vo 5 1 out.length (nums .u8 out) :: F)))

theorem map_keyed : Go.Maps.Keyed Try.prog 3 := Go.Maps.int_keyed Try.underlying3
theorem int_key {i : Int} (h0 : 0 ≤ i) (h1 : i < 1000) : keyOf Try.prog 3 (.int .i64 i) = some (.int .i64 i) := Go.Maps.keyOf_int_mk Try.underlying3 (by simp [Lit.wf, IntKind.min, IntKind.max, IntKind.signed, IntKind.bits]; omega)
theorem zero_sl (w : World) : (zeroValue 25).run Try.prog w = .ok (.slice none 0 0) w := by kernel_rfl

end Go.Proofs.Ytpnnalkihcemhaa.Frag
