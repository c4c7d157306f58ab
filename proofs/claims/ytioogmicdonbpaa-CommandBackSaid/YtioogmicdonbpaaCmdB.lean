/- The bits of a row of commands; plain. And: what is held stays, blocks may come. -/
import Derived.Test.YtioogmicdonbpaaCmdP
import Derived.Test.YtioogmicdonbpaaBits
import Derived.Test.YtioogmicdonbpaaOpen
set_option linter.unusedVariables false
set_option linter.unusedSimpArgs false
namespace Go.Proofs.Ytioogmicdonbpaa.Cmds
open Go.RowKit Go.Proofs.Ytioogmicdonbpaa.Mem Go.Proofs.Ytioogmicdonbpaa.Bits Go.Proofs.Ytioogmicdonbpaa.Open

def cmdBits (c : Cmd) : List Bool := bitsOf (c.mx + 127) 8 ++ (bitsOf (c.my + 127) 8 ++ (if c.fire = true then bitsOf 1 1 ++ (bitsOf c.view 32 ++ bitsOf c.frac 8) else bitsOf 0 1))
def headBits (l : List Cmd) : List Bool := bitsOf ((l.length : Int) - 1) 3 ++ bitsOf (el l 0).num 32
def rowBits (l : List Cmd) : List Bool := headBits l ++ l.flatMap cmdBits
def cmdLen (c : Cmd) : Nat := if c.fire = true then 57 else 17

theorem cmdBits_length (c : Cmd) : (cmdBits c).length = cmdLen c := by
  unfold cmdBits cmdLen
  split <;> simp [bitsOf_length, *]
theorem cmdLen_le (c : Cmd) : 17 ≤ cmdLen c ∧ cmdLen c ≤ 57 := by unfold cmdLen; split <;> omega
theorem cmds_le (l : List Cmd) : (l.flatMap cmdBits).length ≤ 57 * l.length := by
  induction l with
  | nil => simp
  | cons c l ih => simp only [List.flatMap_cons, List.length_append, List.length_cons, cmdBits_length]; have := cmdLen_le c; omega
theorem headBits_length (l : List Cmd) : (headBits l).length = 35 := by simp [headBits, bitsOf_length]
theorem rowBits_length (l : List Cmd) : (rowBits l).length = 35 + (l.map cmdLen).sum := by
  unfold rowBits
  rw [List.length_append, headBits_length]
  congr 1
  induction l with
  | nil => rfl
  | cons c l ih => simp [cmdBits_length, ih]
theorem rowBits_le (l : List Cmd) (h : IsRow l) : (rowBits l).length ≤ 491 := by
  unfold rowBits
  rw [List.length_append, headBits_length]
  have := cmds_le l
  have := h.1
  omega
theorem take_cmds (l : List Cmd) (k : Nat) (h : k < l.length) : (l.take (k + 1)).flatMap cmdBits = (l.take k).flatMap cmdBits ++ cmdBits (el l k) := by
  rw [List.take_add_one, el_get l k h]
  simp

theorem Holds.belowed {W w w' : World} {B : Nat} {H : List Ent} (h : Holds W B w H) (hb : Below w.heap.size w w') : Holds W B w' H :=
  h.same ⟨hb.os, hb.tape, hb.output, hb.size, fun k hk _ => hb.block k hk⟩

theorem RdL.below {W w : World} {v : Value} {size : Nat} {xs : List (List Value)} (h : RdL W v size xs) (hb : Below W.heap.size W w) : RdL w v size xs :=
  h.kept fun a u hu => by
    have := block_lt_of_cell hu
    rw [hb.cell this]
    exact hu

theorem i64a (a : Int) (h0 : -128 ≤ a) (h1 : a ≤ 4294967295) : IntKind.i64.wrap a = a := by
  simp only [IntKind.wrap, IntKind.bits, IntKind.signed, Bool.true_and]
  split <;> rename_i h <;> simp at h ⊢ <;> omega
theorem u64a (a : Int) (h0 : 0 ≤ a) (h1 : a ≤ 4294967295) : IntKind.u64.wrap a = a := by
  simp [IntKind.wrap, IntKind.bits, IntKind.signed]; omega

end Go.Proofs.Ytioogmicdonbpaa.Cmds
