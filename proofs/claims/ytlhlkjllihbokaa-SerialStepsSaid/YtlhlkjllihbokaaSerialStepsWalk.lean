/- The call SerialSteps answers true for every pair of 16-bit numbers: the steps told are those of the definition, and which one is later. No condition. Here: the walk. -/
import Derived.Test.YtlhlkjllihbokaaPSerialTurnsx1
import Derived.Test.YtlhlkjllihbokaaNum
namespace Go.Proofs.Ytlhlkjllihbokaa.SS
open Go.RowKit Go.Proofs.Ytlhlkjllihbokaa.PSerialTurns Go.Proofs.YtlhlkjllihbokaaW.PrintWords
open Go.Proofs.Ytlhlkjllihbokaa.Num

def stp (a b : Int) : Int := (b - a + 32768) % 65536 - 32768

theorem serial_steps (a b : Int) (w : World) : Calls Try.prog 13 #[.int .u16 a, .int .u16 b] w fun e w' => e = .returned (.int .i64 (stp a b)) ∧ Drawn0 w w' := by
  refine serial_Steps.calls a b _ w ?_
  unfold serial_Steps.f stp
  rw [wrap_i16, wrap_u16]
  congr 1
  unfold wrap64
  omega

theorem serial_later (a b : Int) (w : World) : Calls Try.prog 15 #[.int .u16 a, .int .u16 b] w fun e w' => e = .returned (.bool (decide (0 < stp a b))) ∧ Drawn0 w w' := by
  refine serial_Later.calls a b _ w ?_
  unfold serial_Later.f serial_Steps.f stp
  rw [wrap_i16, wrap_u16]
  have : wrap64 (((b - a) % 65536 + 32768) % 65536 - 32768) = (b - a + 32768) % 65536 - 32768 := by unfold wrap64; omega
  rw [this]
  rfl

theorem awake (w : World) : Calls Try.prog 12 #[] w fun e w' => e = .returned (.bool true) ∧ Drawn0 w w' :=
  ricochetlaw04_awake.calls true w (by decide +kernel)

theorem ret_i (a b : Int) (h : a = b) : Ending.returned (.int .i64 a) = .returned (.int .i64 b) := by rw [h]

theorem ref_steps (a b : Int) (w : World) (ha : 0 ≤ a ∧ a ≤ 65535) (hb : 0 ≤ b ∧ b ≤ 65535) : Calls Try.prog 14 #[.int .u16 a, .int .u16 b] w fun e w' => e = .returned (.int .i64 (stp a b)) ∧ Drawn0 w w' := by
  obtain ⟨ha0, ha1⟩ := ha
  obtain ⟨hb0, hb1⟩ := hb
  go_enter Try.func14, Try.ntmps14
  go_wp2
  all_goals
    go_ret
    exact ⟨ret_i _ _ (by unfold stp; omega), Drawn0.refl _⟩

theorem law (a b : Int) (w : World) (ha : 0 ≤ a ∧ a ≤ 65535) (hb : 0 ≤ b ∧ b ≤ 65535) : Calls Try.prog 3 #[.int .u16 a, .int .u16 b] w fun e w' => e = .returned (.bool true) ∧ Below w.heap.size w w' := by
  go_enter Try.func3, Try.ntmps3
  go_wp2_with fail
  refine (awake _).mono ?_
  rintro e w1 ⟨rfl, d1⟩
  go_wp2_with fail
  refine (serial_steps a b _).mono ?_
  rintro e w2 ⟨rfl, d2⟩
  go_wp2_with fail
  refine (ref_steps a b _ ha hb).mono ?_
  rintro e w3 ⟨rfl, d3⟩
  go_wp2_with fail
  refine (serial_later a b _).mono ?_
  rintro e w4 ⟨rfl, d4⟩
  go_wp2_with fail
  refine (ref_steps a b _ ha hb).mono ?_
  rintro e w5 ⟨rfl, d5⟩
  go_wp2_with fail
  go_ret
  exact ⟨rfl, by
    have b1 := d1.below
    have b2 := below_then b1 b1.size d2.below
    have b3 := below_then b2 b2.size d3.below
    have b4 := below_then b3 b3.size d4.below
    exact below_then b4 b4.size d5.below⟩

theorem law' (w : World) (a : Int) (wa : (Lit.int .u16 a).wf = true) (b : Int) (wb : (Lit.int .u16 b).wf = true) :
    Calls Try.prog 3 #[.int .u16 a, .int .u16 b] w fun e w' => e = .returned (.bool true) ∧ Below w.heap.size w w' :=
  law a b w (bounds_u16 wa) (bounds_u16 wb)

end Go.Proofs.Ytlhlkjllihbokaa.SS
