/- The call SerialTurns answers true for all three 16-bit numbers: steps one way are those the other way turned about, but for half of the round; a shift of both changes nothing. No condition. -/
import Derived.Test.YtlhlkjllihbokaaPSerialTurnsx1
import Derived.Test.YtlhlkjllihbokaaNum
namespace Go.Proofs.Ytlhlkjllihbokaa.Pure
open Go.RowKit Go.Proofs.Ytlhlkjllihbokaa.PSerialTurns Go.Proofs.YtlhlkjllihbokaaW.PrintWords Go.Proofs.YtlhlkjllihbokaaW.PrintLast
open Go.Proofs.Ytlhlkjllihbokaa.Num

theorem SerialTurns : ricochetlaw04_SerialTurns.Pure := by
  intro a b c ha hb hc
  have ha := bounds_u16 ha
  have hb := bounds_u16 hb
  have hc := bounds_u16 hc
  have haw : ricochetlaw04_awake.f = some true := by decide +kernel
  have key : ∀ x y : Int, wrap64 (IntKind.i16.wrap (IntKind.u16.wrap (y - x))) = (y - x + 32768) % 65536 - 32768 := by
    intro x y
    rw [wrap_i16, wrap_u16]
    unfold wrap64
    omega
  unfold ricochetlaw04_SerialTurns.f
  rw [haw]
  simp only [serial_Steps.f, key, Option.bind_some, if_true]
  have e1 : (IntKind.u16.wrap (b + c) - IntKind.u16.wrap (a + c) + 32768) % 65536 - 32768 = (b - a + 32768) % 65536 - 32768 := by
    rw [wrap_u16, wrap_u16]; omega
  have e2 : IntKind.u16.wrap ((b - a + 32768) % 65536 - 32768) = IntKind.u16.wrap (b - a) := by
    rw [wrap_u16, wrap_u16]; omega
  rw [e1, e2]
  have e3 : wrap64 (-((a - b + 32768) % 65536 - 32768)) = -((a - b + 32768) % 65536 - 32768) := by unfold wrap64; omega
  rw [e3]
  generalize hD : (b - a + 32768) % 65536 - 32768 = D
  generalize hE : (a - b + 32768) % 65536 - 32768 = E
  have h1 : D ≥ -32768 := by omega
  have h2 : D ≤ 32767 := by omega
  simp only [if_true, h1, h2, BEq.rfl]
  by_cases h : D = -E
  · rw [if_pos h]
  · rw [if_neg h, if_pos (by omega)]

end Go.Proofs.Ytlhlkjllihbokaa.Pure
