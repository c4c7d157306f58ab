/- The writer of bits: what Small leaves. -/
import Derived.Test.YtfcncmhcmbghpaaWr
import Derived.Test.YtfcncmhcmbghpaaSmallP
set_option linter.unusedVariables false
set_option linter.unusedSimpArgs false
namespace Go.Proofs.Ytfcncmhcmbghpaa.Wr
open Go.RowKit Go.Proofs.Ytfcncmhcmbghpaa.Mem Go.Proofs.Ytfcncmhcmbghpaa.Bits Go.Proofs.Ytfcncmhcmbghpaa.Num Go.Proofs.YtfcncmhcmbghpaaW.PrintWords

set_option maxHeartbeats 1000000 in
theorem small (W : World) (B : Nat) (w : World) (b : Nat) (e : TypeId) (l : List Bool) (F : List Ent) (x : Int) (hw : HasW W B w b e l F)
    (hx0 : -9223372036854775808 ≤ x) (hx : x ≤ 9223372036854775807) (hl : l.length + 200 ≤ 1000000000) :
    Calls Try.prog 44 #[.pointer (some ⟨b, 0, none⟩), .int .i64 x] w fun e' w' => e' = .returned (.tuple #[]) ∧ HasW W B w' b e (l ++ smallB (zig x).toNat) F := by
  have hz := zig_range x hx0 hx
  have h80 := smallB_80 (zig x).toNat (by omega)
  obtain ⟨U, hU⟩ : ∃ U : Nat, U = (zig x).toNat := ⟨_, rfl⟩
  rw [← hU] at h80
  go_enter Try.func44, Try.ntmps44
  go_wp2
  have hzb := zig_bits x hx0 hx
  go_loopw [4] (fun t wr => ∃ (u : Nat) (done : List Bool), t = .int .u64 u ∧ u < 18446744073709551616 ∧ HasW W B wr b e (l ++ done) F ∧ done ++ smallB u = smallB U) (fun t _ => (intOf t).toNat)
  case atStart => exact ⟨U, [], by rw [hzb, hU, Int.toNat_of_nonneg hz.1], by omega, by simpa using hw, by simp⟩
  case round =>
    obtain ⟨u, done, rfl, hu, hW, hd⟩ := hrel
    have hlen : done.length ≤ 72 := by
      have h1 := congrArg List.length hd
      have h2 := (smallB_len u).2
      simp only [List.length_append] at h1
      omega
    have HD := Lib.hid hd
    clear hd hzb
    by_cases h : u < 128
    · have ht : ¬ 128 ≤ (u : Int) := by omega
      have he : IntKind.u64.wrap ((u : Int) * 2) = 2 * (u : Int) := by rw [wrap_u64]; omega
      go_wp2_with fail
      refine (put W B wr b e _ F _ 8 hW (by omega) (by omega) (by decide) (by decide) (by simp only [List.length_append]; omega)).mono ?_
      rintro e' w1 ⟨rfl, h1⟩
      go_wp2
      go_end0
      refine ⟨rfl, ?_⟩
      rw [← hU, ← HD.out, smallB_lt h, ← List.append_assoc]
      exact h1
    · have ht : 128 ≤ (u : Int) := by omega
      have he : bits .or .u64 1 (IntKind.u64.wrap (bits .and .u64 (u : Int) 127 * 2)) = 1 + 2 * ((u % 128 : Nat) : Int) := by
        rw [u64_and127 _ (by omega) (by omega), wrap_u64, show (u : Int) % 128 * 2 % 18446744073709551616 = (u : Int) % 128 * 2 by omega, u64_or1 _ (by omega) (by omega)]
        omega
      go_wp2_with fail
      refine (put W B wr b e _ F _ 8 hW (by omega) (by omega) (by decide) (by decide) (by simp only [List.length_append]; omega)).mono ?_
      rintro e' w1 ⟨rfl, h1⟩
      clear hW
      go_wp2
      refine ⟨⟨u / 128, done ++ bitsOf (1 + 2 * ((u % 128 : Nat) : Int)) 8, by go_num, by omega, ?_, ?_⟩, by simp [intOf]; omega⟩
      · rw [← List.append_assoc]; exact h1
      · rw [List.append_assoc, ← smallB_ge h]; exact HD.out

end Go.Proofs.Ytfcncmhcmbghpaa.Wr
