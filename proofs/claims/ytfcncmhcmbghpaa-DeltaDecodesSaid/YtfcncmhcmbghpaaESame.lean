/- Two lists of entities that are one list are told to be the same; by the reference. -/
import Derived.Test.YtfcncmhcmbghpaaEList
import Derived.Test.YtfcncmhcmbghpaaStep
import Derived.Lib.QuietBelow
import Derived.BigQuiet
set_option linter.unusedVariables false
set_option linter.unusedSimpArgs false
namespace Go.Proofs.Ytfcncmhcmbghpaa.Ents
open Go.Sort Go.RowKit Go.Proofs.Ytfcncmhcmbghpaa.Mem Go.Proofs.Ytfcncmhcmbghpaa.Open Go.Proofs.Ytfcncmhcmbghpaa.Num Go.Proofs.Ytfcncmhcmbghpaa.Step

set_option maxHeartbeats 1000000 in
theorem ersame (w : World) (v v' : Value) (l : List Enty) (hv : RdL w v 8 (l.map Enty.cells)) (hv' : RdL w v' 8 (l.map Enty.cells)) :
    Calls Try.prog 34 #[v, v'] w fun e' w' => e' = .returned (.bool true) ∧ Below w.heap.size w w' := by
  obtain ⟨A, c, rfl, hc, hm, hr⟩ := cells_at hv
  obtain ⟨A', c', rfl, hc', hm', hr'⟩ := cells_at hv'
  have HR := Lib.hid hr
  have HR' := Lib.hid hr'
  have HML := Lib.hid (show l.length ≤ maxLen by omega)
  clear hr hv hr' hv' hm hm'
  go_enter Try.func34, Try.ntmps34
  go_wp2_with fail
  go_loopw [5] (fun i wr => ∃ k : Nat, k ≤ l.length ∧ i = .int .i64 k ∧ Below w.heap.size w wr)
    (fun i _ => l.length - (intOf i).toNat)
  case atStart => exact ⟨0, Nat.zero_le _, rfl, Below.refl _ _⟩
  case round =>
    obtain ⟨k, hk, rfl, hb⟩ := hrel
    by_cases hkn : k < l.length
    · obtain ⟨b, off, rfl, hlt, c0, c1, c2, c3, c4, c5, c6, c7⟩ := HR.out k hkn
      obtain ⟨b', off', rfl, hlt', d0, d1, d2, d3, d4, d5, d6, d7⟩ := HR'.out k hkn
      have e0 := (hb.cell (p := ⟨b, off + k * 8, none⟩) hlt).trans c0
      have e1 := (hb.cell (p := ⟨b, off + k * 8 + 1, none⟩) hlt).trans c1
      have e2 := (hb.cell (p := ⟨b, off + k * 8 + 2, none⟩) hlt).trans c2
      have e3 := (hb.cell (p := ⟨b, off + k * 8 + 3, none⟩) hlt).trans c3
      have e4 := (hb.cell (p := ⟨b, off + k * 8 + 4, none⟩) hlt).trans c4
      have e5 := (hb.cell (p := ⟨b, off + k * 8 + 5, none⟩) hlt).trans c5
      have e6 := (hb.cell (p := ⟨b, off + k * 8 + 6, none⟩) hlt).trans c6
      have e7 := (hb.cell (p := ⟨b, off + k * 8 + 7, none⟩) hlt).trans c7
      have g0 := (hb.cell (p := ⟨b', off' + k * 8, none⟩) hlt').trans d0
      have g1 := (hb.cell (p := ⟨b', off' + k * 8 + 1, none⟩) hlt').trans d1
      have g2 := (hb.cell (p := ⟨b', off' + k * 8 + 2, none⟩) hlt').trans d2
      have g3 := (hb.cell (p := ⟨b', off' + k * 8 + 3, none⟩) hlt').trans d3
      have g4 := (hb.cell (p := ⟨b', off' + k * 8 + 4, none⟩) hlt').trans d4
      have g5 := (hb.cell (p := ⟨b', off' + k * 8 + 5, none⟩) hlt').trans d5
      have g6 := (hb.cell (p := ⟨b', off' + k * 8 + 6, none⟩) hlt').trans d6
      have g7 := (hb.cell (p := ⟨b', off' + k * 8 + 7, none⟩) hlt').trans d7
      have ts := succ_len k (Nat.lt_of_lt_of_le hkn HML.out)
      have k0 : (0 : Int) ≤ (k : Int) := by omega
      have k1 : (k : Int) < (l.length : Int) := by omega
      clear c0 c1 c2 c3 c4 c5 c6 c7 d0 d1 d2 d3 d4 d5 d6 d7
      go_wp2_with fail
      have E0 := cell_regrown e0
      have E1 := cell_regrown e1
      have E2 := cell_regrown e2
      have E3 := cell_regrown e3
      have E4 := cell_regrown e4
      have E5 := cell_regrown e5
      have E6 := cell_regrown e6
      have E7 := cell_regrown e7
      have G0 := cell_regrown g0
      have G1 := cell_regrown g1
      have G2 := cell_regrown g2
      have G3 := cell_regrown g3
      have G4 := cell_regrown g4
      have G5 := cell_regrown g5
      have G6 := cell_regrown g6
      have G7 := cell_regrown g7
      clear e0 e1 e2 e3 e4 e5 e6 e7 g0 g1 g2 g3 g4 g5 g6 g7
      refine wp_region_quiet_below (by kernel_rfl) (by kernel_rfl) ?_
      repeat (go_big_quiet_step (fail))
      refine wpQuiet_nil ?_
      intro _ hw'
      obtain ⟨⟨dq, osq⟩, hw''⟩ := hw'
      subst hw''
      have hbx := below_regrown wr dq osq
      clear E0 E1 E2 E3 E4 E5 E6 E7 G0 G1 G2 G3 G4 G5 G6 G7
      generalize grow (redrawn wr dq) osq = w4 at *
      have hbw : Below w.heap.size w w4 := hb.trans (hbx.mono hb.size)
      go_wp2_with fail
      rw [ts]
      clear ts
      exact ⟨⟨k + 1, by omega, by rw [Int.natCast_add]; rfl, hbw⟩, succ_less hkn⟩
    · obtain rfl : k = l.length := by omega
      go_wp2_with fail
      go_ret
      exact ⟨rfl, hb⟩

end Go.Proofs.Ytfcncmhcmbghpaa.Ents
