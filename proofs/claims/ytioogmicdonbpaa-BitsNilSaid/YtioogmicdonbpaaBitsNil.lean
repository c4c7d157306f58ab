/- The law BitsNil: no writer and no reader do nothing. For all numbers; no condition. Here: the walk. -/
import Derived.Test.YtioogmicdonbpaaAwake06
set_option linter.unusedVariables false
set_option linter.unusedSimpArgs false
namespace Go.Proofs.Ytioogmicdonbpaa.Wr
open Go.RowKit Go.Proofs.Ytioogmicdonbpaa.Mem Go.Proofs.Ytioogmicdonbpaa.Bits Go.Proofs.Ytioogmicdonbpaa.Num Go.Proofs.YtioogmicdonbpaaW.PrintWords

theorem nil_put (w : World) (x n : Int) : Calls Try.prog 23 #[.pointer none, .int .u64 x, .int .i64 n] w fun e' w' => e' = .returned (.tuple #[]) ∧ w = w' := by
  go_enter Try.func23, Try.ntmps23
  go_wp2
  exact bodyPost_ret (v := .tuple #[]) (results_none rfl _ _ _) rfl ⟨rfl, rfl⟩

theorem bits_u64 (op : BinOp) (x y : Int) : 0 ≤ bits op .u64 x y ∧ bits op .u64 x y < 18446744073709551616 := by
  unfold bits
  rw [wrap_u64]
  omega

set_option maxHeartbeats 1000000 in
theorem nil_small (w : World) (x : Int) : Calls Try.prog 30 #[.pointer none, .int .i64 x] w fun e' w' => e' = .returned (.tuple #[]) ∧ w = w' := by
  go_enter Try.func30, Try.ntmps30
  go_wp2
  have hb := bits_u64 .xor (IntKind.u64.wrap (IntKind.u64.wrap x * 2)) (IntKind.u64.wrap (x / 9223372036854775808))
  go_loopw [4] (fun t wr => ∃ u : Nat, t = .int .u64 u ∧ w = wr) (fun t _ => (intOf t).toNat)
  case atStart => exact ⟨(bits .xor .u64 (IntKind.u64.wrap (IntKind.u64.wrap x * 2)) (IntKind.u64.wrap (x / 9223372036854775808))).toNat, by rw [Int.toNat_of_nonneg hb.1], rfl⟩
  case round =>
    obtain ⟨u, rfl, rfl⟩ := hrel
    clear hb
    by_cases h : u < 128
    · have ht : ¬ 128 ≤ (u : Int) := by omega
      go_wp2_with fail
      refine (nil_put _ _ _).mono ?_
      rintro e' w1 ⟨rfl, rfl⟩
      go_wp2_with fail
      go_end0
      exact ⟨rfl, rfl⟩
    · have ht : 128 ≤ (u : Int) := by omega
      go_wp2_with fail
      refine (nil_put _ _ _).mono ?_
      rintro e' w1 ⟨rfl, rfl⟩
      go_wp2_with fail
      exact ⟨⟨u / 128, by go_num, trivial⟩, by simp [intOf]; omega⟩

theorem nil_take (w : World) (n : Int) : Calls Try.prog 25 #[.pointer none, .int .i64 n] w fun e' w' => e' = .returned (.int .u64 0) ∧ w = w' := by
  go_enter Try.func25, Try.ntmps25
  go_wp2
  go_ret
  exact ⟨rfl, rfl⟩

theorem nil_rsmall (w : World) : Calls Try.prog 33 #[.pointer none] w fun e' w' => e' = .returned (.int .i64 0) ∧ w = w' := by
  go_enter Try.func33, Try.ntmps33
  go_wp2
  go_ret
  exact ⟨rfl, rfl⟩

theorem nil_ok (w : World) : Calls Try.prog 34 #[.pointer none] w fun e' w' => e' = .returned (.bool false) ∧ w = w' := by
  go_enter Try.func34, Try.ntmps34
  go_wp2
  go_ret
  exact ⟨rfl, rfl⟩

theorem nil_left (w : World) : Calls Try.prog 35 #[.pointer none] w fun e' w' => e' = .returned (.int .i64 0) ∧ w = w' := by
  go_enter Try.func35, Try.ntmps35
  go_wp2
  go_ret
  exact ⟨rfl, rfl⟩

theorem nil_done (w : World) : Calls Try.prog 28 #[.pointer none] w fun e' w' => e' = .returned (.bool false) ∧ w = w' := by
  go_enter Try.func28, Try.ntmps28
  go_wp2_with fail
  refine (nil_ok _).mono ?_
  rintro e' w1 ⟨rfl, rfl⟩
  go_wp2
  go_ret
  exact ⟨rfl, rfl⟩

theorem nil_count (w : World) : Calls Try.prog 15 #[.pointer none] w fun e' w' => e' = .returned (.int .i64 0) ∧ w = w' := by
  go_enter Try.func15, Try.ntmps15
  go_wp2
  go_ret
  exact ⟨rfl, rfl⟩

theorem nil_bytes (w : World) : Calls Try.prog 21 #[.pointer none] w fun e' w' => e' = .returned (.slice none 0 0) ∧ w = w' := by
  go_enter Try.func21, Try.ntmps21
  go_wp2
  go_ret
  exact ⟨rfl, rfl⟩

set_option maxHeartbeats 1000000 in
theorem bitsNil (w : World) (x : Int) (wx : (Lit.int .u64 x).wf = true) (n : Int) (wn : (Lit.int .i64 n).wf = true) :
    Calls Try.prog 10 #[.int .u64 x, .int .i64 n] w fun e' w' => e' = .returned (.bool true) ∧ Below w.heap.size w w' := by
  go_enter Try.func10, Try.ntmps10
  go_wp2_with fail
  refine (nil_put _ _ _).mono ?_
  rintro e' w1 ⟨rfl, rfl⟩
  go_wp2_with fail
  refine (nil_small _ _).mono ?_
  rintro e' w1 ⟨rfl, rfl⟩
  go_wp2_with fail
  refine (awake06 _ _ _ _ (Holds.start w)).mono ?_
  rintro e' w1 ⟨rfl, h1⟩
  have hbel := h1.below
  clear h1
  go_wp2_with fail
  refine (nil_bytes _).mono ?_
  rintro e' w2 ⟨rfl, rfl⟩
  go_wp2_with fail
  refine (nil_count _).mono ?_
  rintro e' w2 ⟨rfl, rfl⟩
  go_wp2_with fail
  refine (nil_take _ _).mono ?_
  rintro e' w2 ⟨rfl, rfl⟩
  go_wp2_with fail
  refine (nil_rsmall _).mono ?_
  rintro e' w2 ⟨rfl, rfl⟩
  go_wp2_with fail
  refine (nil_ok _).mono ?_
  rintro e' w2 ⟨rfl, rfl⟩
  go_wp2_with fail
  refine (nil_left _).mono ?_
  rintro e' w2 ⟨rfl, rfl⟩
  go_wp2_with fail
  refine (nil_done _).mono ?_
  rintro e' w2 ⟨rfl, rfl⟩
  go_wp2_with fail
  go_ret
  exact ⟨rfl, hbel⟩

end Go.Proofs.Ytioogmicdonbpaa.Wr
