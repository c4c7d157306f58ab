/- The reference's assembler in memory; mine and read, by the program. -/
import Derived.Test.YtpnnalkihcemhaaFeedsP
import Derived.Test.YtpnnalkihcemhaaFeedC
import Derived.Test.YtpnnalkihcemhaaRRT
set_option linter.unusedVariables false
set_option linter.unusedSimpArgs false
namespace Go.Proofs.Ytpnnalkihcemhaa.Frag
open Go.Sort Go.RowKit Go.Deep Go.Proofs.Ytpnnalkihcemhaa.Mem Go.Proofs.Ytpnnalkihcemhaa.Open Go.Proofs.Ytpnnalkihcemhaa.Num Go.Proofs.Ytpnnalkihcemhaa.Wr Go.Proofs.Ytpnnalkihcemhaa.Bits Go.Proofs.Ytpnnalkihcemhaa.Step Go.Proofs.YtpnnalkihcemhaaW.PrintWords

/-- A part's cells: its bytes are only read. -/
def pcells (x : RP × Value) : List Value := [.int .u16 x.1.id, .int .i64 x.1.n, .int .i64 x.1.at_, x.2]
def prow (L : List (RP × Value)) : List Value := L.flatMap pcells
theorem prow_len (L : List (RP × Value)) : (prow L).length = L.length * 4 := by
  induction L with
  | nil => rfl
  | cons x L ih =>
    simp only [prow, List.flatMap_cons, List.length_append, List.length_cons, pcells, List.length_nil] at ih ⊢
    omega
theorem prow_at (L : List (RP × Value)) (k : Nat) (x : RP × Value) (h : L[k]? = some x) (i : Nat) (hi : i < 4) : (prow L)[k * 4 + i]? = (pcells x)[i]? := by
  obtain ⟨hk, rfl⟩ := List.getElem?_eq_some_iff.1 h
  have e : L = L.take k ++ L[k] :: L.drop (k + 1) := by rw [← List.drop_eq_getElem_cons hk, List.take_append_drop]
  have hl : (prow (L.take k)).length = k * 4 := by rw [prow_len, List.length_take, Nat.min_eq_left (Nat.le_of_lt hk)]
  have e2 : prow L = prow (L.take k) ++ (pcells L[k] ++ prow (L.drop (k + 1))) := by
    conv => lhs; rw [e]
    unfold prow
    rw [List.flatMap_append, List.flatMap_cons]
  rw [e2, List.getElem?_append_right (by omega), hl, Nat.add_sub_cancel_left, List.getElem?_append_left (by simpa [pcells] using hi)]
theorem prow_snoc (L : List (RP × Value)) (x : RP × Value) : prow (L ++ [x]) = prow L ++ pcells x := by unfold prow; simp
/-- What holds of a part that is kept. -/
structure RPok (W : World) (x : RP × Value) : Prop where
  i0 : 0 ≤ x.1.id
  i1 : x.1.id < 65536
  n0 : 0 < x.1.n
  n1 : x.1.n ≤ 14
  a0 : 0 ≤ x.1.at_
  a1 : x.1.at_ < x.1.n
  rd : Rd W x.2 x.1.b.length (nums .u8 x.1.b)
  len : x.1.b.length ≤ 300
def RA (W w : World) (b : Nat) (L : List (RP × Value)) (F : List Ent) : Prop :=
  L.length ≤ 1000 ∧ (∀ x ∈ L, RPok W x) ∧ ∃ v, Holds W W.heap.size w (.st b [v] 45 :: .rw v 117 4 L.length (prow L) :: F)

theorem rmine (w : World) (i n a : Int) (v : Value) (i' n' a' : Int) (v' : Value) :
    Calls Try.prog 51 #[.agg #[.int .u16 i, .int .i64 n, .int .i64 a, v], .agg #[.int .u16 i', .int .i64 n', .int .i64 a', v']] w fun e' w' => e' = .returned (.bool (i == i' && n == n')) ∧ Below w.heap.size w w' := by
  have h1 := ((Holds.start w).alloc [.int .u16 i, .int .i64 n, .int .i64 a, v] 117).alloc [.int .u16 i', .int .i64 n', .int .i64 a', v'] 117
  have hb := h1.below
  have HB := Lib.hid hb
  clear h1 hb
  by_cases e1 : i = i'
  · have t1 : (i == i') = true := by rw [e1]; exact beq_self_eq_true i'
    by_cases e2 : n = n'
    · have t2 : (n == n') = true := by rw [e2]; exact beq_self_eq_true n'
      clear e1 e2
      go_enter Try.func51, Try.ntmps51
      go_wp2_with fail
      go_ret
      exact ⟨by rw [t1, t2]; rfl, HB.out⟩
    · have t2 : (n == n') = false := beq_eq_false_iff_ne.2 e2
      clear e1 e2
      go_enter Try.func51, Try.ntmps51
      go_wp2_with fail
      go_ret
      exact ⟨by rw [t1, t2]; rfl, HB.out⟩
  · have t1 : (i == i') = false := beq_eq_false_iff_ne.2 e1
    clear e1
    go_enter Try.func51, Try.ntmps51
    go_wp2_with fail
    go_ret
    exact ⟨by rw [t1]; rfl, HB.out⟩

end Go.Proofs.Ytpnnalkihcemhaa.Frag
