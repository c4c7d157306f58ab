/- The reference's bits: what Put and Small leave. -/
import Derived.Test.YtpnnalkihcemhaaWr
import Derived.Test.YtpnnalkihcemhaaSmallP
set_option linter.unusedVariables false
set_option linter.unusedSimpArgs false
namespace Go.Proofs.Ytpnnalkihcemhaa.Wr
open Go.RowKit Go.Proofs.Ytpnnalkihcemhaa.Mem Go.Proofs.Ytpnnalkihcemhaa.Bits Go.Proofs.Ytpnnalkihcemhaa.Num Go.Proofs.YtpnnalkihcemhaaW.PrintWords

theorem info_bool : (Try.prog.info? 4).map (fun i => (i.zero, i.size, i.bytes)) = some (some (.bool false), 1, 1) := by kernel_rfl

/-- The reference's bits l at the head of block b. -/
def HasB (W : World) (B : Nat) (w : World) (b : Nat) (e : TypeId) (l : List Bool) (F : List Ent) : Prop :=
  ∃ v, Holds W B w (.st b [v] e :: .rw v 4 1 l.length (bools l) :: F)

theorem half (x : Int) (k : Nat) : x / 2 ^ k / 2 = x / 2 ^ (k + 1) := by
  rw [Int.pow_succ, Int.ediv_ediv_of_nonneg (Int.le_of_lt (Int.pow_pos (by decide)))]

set_option maxHeartbeats 1000000 in
theorem rput (W : World) (B : Nat) (w : World) (b : Nat) (e : TypeId) (l : List Bool) (F : List Ent) (x n : Int) (hw : HasB W B w b e l F)
    (hx0 : 0 ≤ x) (hx : x < 18446744073709551616) (hn0 : 0 ≤ n) (hn : n ≤ 64) (hl : l.length + 64 ≤ 1000000000) :
    Calls Try.prog 43 #[.pointer (some ⟨b, 0, none⟩), .int .u64 x, .int .i64 n] w fun e' w' => e' = .returned (.tuple #[]) ∧ HasB W B w' b e (l ++ bitsOf x n.toNat) F := by
  obtain ⟨m, rfl⟩ := Int.eq_ofNat_of_zero_le hn0
  obtain ⟨i0, hi, hz0, hz1, hz2⟩ := info_parts info_bool
  go_enter Try.func43, Try.ntmps43
  go_wp2
  go_loopw [1, 6] (fun xs i wr => ∃ k : Nat, k ≤ m ∧ i = .int .i64 k ∧ xs = .int .u64 (x / 2 ^ k) ∧ HasB W B wr b e (l ++ bitsOf x k) F) (fun _ i _ => m - (intOf i).toNat)
  case atStart => exact ⟨0, Nat.zero_le _, rfl, by simp, by simpa [bitsOf] using hw⟩
  case round =>
    obtain ⟨k, hk, rfl, rfl, v, hH⟩ := hrel
    have hyb := shr_bound x k hx0
    have hhalf := half x k
    have hbit := bitsOf_succ x k
    have HHalf := Lib.hid hhalf
    have HBit := Lib.hid hbit
    clear hhalf hbit
    generalize hL : l ++ bitsOf x k = L at hH
    have hLl : L.length ≤ l.length + 64 := by rw [← hL]; simp [bitsOf_length]; omega
    have HL := Lib.hid hL
    clear hL
    generalize hy : x / 2 ^ k = y at *
    have HY := Lib.hid hy
    clear hy
    obtain ⟨A, c, rfl⟩ := hH.up1.slice
    have c0 := hH.cell 0 (v := .slice A L.length c) rfl
    have f0 := hH.frozen 0
    by_cases hkm : k < m
    · go_wp2_with (at_builtin; refine wpList_append_own_at _ rfl (.tmp 20) (.tmp 24) 76 rfl B 4 i0 (.bool false) 1 1 Try.underlying76 hi hz0 hz1 hz2 rfl (by decide) _ _ _ rfl (hH.up1.own.alloc _) ⟨wr.heap.size, 0, none⟩ 1 1 [.bool (y % 2 == 1)] rfl rfl (cell_one_new _ _ _) ?c2 ?c3 ?c4 ?c5 ?_)
      case c2 => intro u hu; simp at hu; subst hu; rfl
      case c3 => unfold maxLen; omega
      case c4 => omega
      case c5 => have := hH.size; simp; omega
      intro v' w1 ho hg _ hat
      have h1 := (hH.alloc' (.cells #[.bool (y % 2 == 1)] 4)).up1.grew ho hg (hat.imp id (fun h => ⟨_, h, by simp⟩))
      obtain ⟨g, cp, rfl, hcp, hBg, hgl⟩ := h1.row (by omega)
      have h2 := h1.up1
      have c0 := h2.cell 0 (v := .slice A L.length c) rfl
      have f0 := h2.frozen 0
      clear ho hg hat hH
      go_wp2_with fail
      have hS := h2.set 0 (.slice (some ⟨g, 0, none⟩) (L.length + 1) cp)
      refine ⟨⟨k + 1, by omega, by go_num, by rw [← HHalf.out], .slice (some ⟨g, 0, none⟩) (L.length + 1) cp, ?_⟩, by simp [intOf]; omega⟩
      have e1 : l ++ bitsOf x (k + 1) = L ++ [y % 2 == 1] := by rw [HBit.out, ← List.append_assoc, HL.out]; rfl
      rw [e1]
      simpa [bools] using hS
    · go_wp2
      go_end0
      obtain rfl : k = m := by omega
      refine ⟨rfl, .slice A L.length c, ?_⟩
      rw [Int.toNat_natCast, HL.out]
      exact hH

set_option maxHeartbeats 1000000 in
theorem rput_not (W : World) (B : Nat) (w : World) (b : Nat) (e : TypeId) (l : List Bool) (F : List Ent) (x n : Int) (hw : HasB W B w b e l F) (hn : n < 0 ∨ 64 < n) :
    Calls Try.prog 43 #[.pointer (some ⟨b, 0, none⟩), .int .u64 x, .int .i64 n] w fun e' w' => e' = .returned (.tuple #[]) ∧ HasB W B w' b e l F := by
  rcases hn with hn | hn
  · have h0 : decide (0 < n) = false := by simp; omega
    go_enter Try.func43, Try.ntmps43
    go_wp2
    refine wp_loop_once ?_
    go_wp2
    go_end0
    exact ⟨rfl, hw⟩
  · have h0 : decide (0 < n) = true := by simp; omega
    have h1 : decide (n ≤ 64) = false := by simp; omega
    go_enter Try.func43, Try.ntmps43
    go_wp2
    refine wp_loop_once ?_
    go_wp2
    go_end0
    exact ⟨rfl, hw⟩

theorem rfresh {W : World} {B : Nat} {w : World} {F : List Ent} (hH : Holds W B w F) (e : TypeId) : HasB W B (w.alloc (.cells #[.slice none 0 0] e)) w.heap.size e [] F :=
  ⟨.slice none 0 0, ((hH.alloc [.slice none 0 0] e).nilrow 4 1).up1⟩

end Go.Proofs.Ytpnnalkihcemhaa.Wr
