/- Lists of entities, by the reference. -/
import Derived.Test.YtfcncmhcmbghpaaERForm
import Derived.Test.YtfcncmhcmbghpaaEList
set_option linter.unusedVariables false
set_option linter.unusedSimpArgs false
namespace Go.Proofs.Ytfcncmhcmbghpaa.Ents
open Go.Sort Go.RowKit Go.Proofs.Ytfcncmhcmbghpaa.Mem Go.Proofs.Ytfcncmhcmbghpaa.Open Go.Proofs.Ytfcncmhcmbghpaa.Num Go.Proofs.Ytfcncmhcmbghpaa.Step

set_option maxHeartbeats 1000000 in
theorem erlist (w : World) (v : Value) (l : List Enty) (hv : RdL w v 8 (l.map Enty.cells)) :
    Calls Try.prog 17 #[v] w fun e' w' => e' = .returned (.bool (listB l)) ∧ Below w.heap.size w w' := by
  obtain ⟨A, c, rfl, hc, hm, hr⟩ := cells_at hv
  have HR := Lib.hid hr
  have HML := Lib.hid (show l.length ≤ maxLen by omega)
  clear hr hv hm
  go_enter Try.func17, Try.ntmps17
  go_wp2_with fail
  go_loopw [3] (fun i wr => ∃ k : Nat, k ≤ l.length ∧ i = .int .i64 k ∧ Below w.heap.size w wr ∧ Hid (∀ j, j < k → EFrm (el l j) ∧ (0 < j → (el l (j - 1)).id < (el l j).id)))
    (fun i _ => l.length - (intOf i).toNat)
  case atStart => exact ⟨0, Nat.zero_le _, rfl, Below.refl _ _, Lib.hid (fun j hj => by omega)⟩
  case round =>
    obtain ⟨k, hk, rfl, hb, HF⟩ := hrel
    by_cases hkn : k < l.length
    · obtain ⟨b, off, rfl, hlt, c0, c1, c2, c3, c4, c5, c6, c7⟩ := HR.out k hkn
      have HTS := Lib.hid (succ_len k (Nat.lt_of_lt_of_le hkn HML.out))
      have E0 := cell_regrown ((hb.cell (p := ⟨b, off + k * 8, none⟩) hlt).trans c0)
      have E1 := cell_regrown ((hb.cell (p := ⟨b, off + k * 8 + 1, none⟩) hlt).trans c1)
      have E2 := cell_regrown ((hb.cell (p := ⟨b, off + k * 8 + 2, none⟩) hlt).trans c2)
      have E3 := cell_regrown ((hb.cell (p := ⟨b, off + k * 8 + 3, none⟩) hlt).trans c3)
      have E4 := cell_regrown ((hb.cell (p := ⟨b, off + k * 8 + 4, none⟩) hlt).trans c4)
      have E5 := cell_regrown ((hb.cell (p := ⟨b, off + k * 8 + 5, none⟩) hlt).trans c5)
      have E6 := cell_regrown ((hb.cell (p := ⟨b, off + k * 8 + 6, none⟩) hlt).trans c6)
      have E7 := cell_regrown ((hb.cell (p := ⟨b, off + k * 8 + 7, none⟩) hlt).trans c7)
      have k0 : (0 : Int) ≤ (k : Int) := by omega
      have k1 : (k : Int) < (l.length : Int) := by omega
      clear c0 c1 c2 c3 c4 c5 c6 c7
      go_wp2_with fail
      by_cases hF : EFrm (el l k)
      · have HC : Hid (∀ d os, Calls Try.prog 15 #[.agg #[.int .i64 (el l k).id, .int .i64 (el l k).kind, .int .i64 (el l k).x, .int .i64 (el l k).y, .int .i64 (el l k).vx, .int .i64 (el l k).vy, .int .i64 (el l k).hp, .int .i64 (el l k).wt]] (grow (redrawn wr d) os) fun e w'' => e = .returned (.bool true) ∧ ∃ p : Regrown, w'' = grow (redrawn wr p.d) p.os) := fun d os => Calls.regrown_of (by
          have := erformed (grow (redrawn wr d) os) (el l k)
          rw [decide_eq_true hF] at this
          exact this)
        have HFF := Lib.hid hF
        clear hF
        by_cases hk0 : k = 0
        · have t0 : decide ((0 : Int) < (k : Int)) = false := by simp; omega
          have tz : ¬ 0 < k := by omega
          have HK0 := Lib.hid hk0
          clear hk0
          refine wp_region_quiet_below (by kernel_rfl) (by kernel_rfl) ?_
          repeat (go_big_quiet_step ((go_at_call 15; with_reducible exact HC.out _ _)))
          refine wpQuiet_nil ?_
          intro _ hw'
          obtain ⟨⟨dq, osq⟩, hw''⟩ := hw'
          subst hw''
          have hbx := below_regrown wr dq osq
          clear E0 E1 E2 E3 E4 E5 E6 E7
          generalize grow (redrawn wr dq) osq = w4 at *
          have hbw : Below w.heap.size w w4 := hb.trans (hbx.mono hb.size)
          go_wp2_with fail
          clear tz t0
          try rw [HTS.out]
          refine ⟨⟨k + 1, by omega, cast_succ k, hbw, fun j hj => ?_⟩, succ_less hkn⟩
          have hk0 := HK0.out
          obtain rfl : j = k := by omega
          exact ⟨HFF.out, fun h => by omega⟩
        · obtain ⟨m, hm⟩ : ∃ m, k = m + 1 := ⟨k - 1, by omega⟩
          have t0 : decide ((0 : Int) < (k : Int)) = true := by simp; omega
          have tz : 0 < k := by omega
          have tw : IntKind.i64.wrap ((k : Int) - 1) = (m : Int) := pred_len k m hm (Nat.le_trans hk HML.out)
          have m0 : (0 : Int) ≤ (m : Int) := by omega
          have m1 : (m : Int) < (l.length : Int) := by omega
          obtain ⟨b', off', hA, _, d6, _⟩ := HR.out m (by omega)
          obtain ⟨rfl, rfl⟩ := some_addr hA
          clear hA
          have E8 := cell_regrown ((hb.cell (p := ⟨b, off + m * 8, none⟩) hlt).trans d6)
          clear d6
          have HM := Lib.hid hm
          clear hm hk0
          by_cases hN : (el l m).id < (el l k).id
          · have t1 : decide ((el l k).id ≤ (el l m).id) = false := by simpa using hN
            have t2 : ¬ (el l k).id ≤ (el l m).id := by omega
            have HN := Lib.hid hN
            clear hN
            refine wp_region_quiet_below (by kernel_rfl) (by kernel_rfl) ?_
            repeat (go_big_quiet_step ((go_at_call 15; with_reducible exact HC.out _ _)))
            refine wpQuiet_nil ?_
            intro _ hw'
            obtain ⟨⟨dq, osq⟩, hw''⟩ := hw'
            subst hw''
            have hbx := below_regrown wr dq osq
            clear E0 E1 E2 E3 E4 E5 E6 E7 E8
            generalize grow (redrawn wr dq) osq = w4 at *
            have hbw : Below w.heap.size w w4 := hb.trans (hbx.mono hb.size)
            go_wp2_with fail
            clear tz t0 t1 t2 tw m0 m1
            try rw [HTS.out]
            refine ⟨⟨k + 1, by omega, cast_succ k, hbw, fun j hj => ?_⟩, succ_less hkn⟩
            have hm := HM.out
            by_cases hjk : j < k
            · exact HF.out j hjk
            · obtain rfl : j = k := by omega
              refine ⟨HFF.out, fun _ => ?_⟩
              rw [show j - 1 = m by omega]
              exact HN.out
          · have t1 : decide ((el l k).id ≤ (el l m).id) = true := by simp; omega
            have t2 : (el l k).id ≤ (el l m).id := by omega
            have HN := Lib.hid hN
            clear hN
            refine wp_region_quiet_below (by kernel_rfl) (by kernel_rfl) ?_
            repeat (go_big_quiet_step ((go_at_call 15; with_reducible exact HC.out _ _)))
            refine wpQuiet_nil ?_
            intro _ hw'
            obtain ⟨⟨dq, osq⟩, hw''⟩ := hw'
            subst hw''
            have hbx := below_regrown wr dq osq
            clear E0 E1 E2 E3 E4 E5 E6 E7 E8
            generalize grow (redrawn wr dq) osq = w4 at *
            have hbw : Below w.heap.size w w4 := hb.trans (hbx.mono hb.size)
            go_wp2_with fail
            go_ret
            refine ⟨ret_b ?_, hbw⟩
            rw [eq_comm, listB_false]
            intro h
            have hm := HM.out
            have h1 := (h k hkn).2 (by omega)
            rw [show k - 1 = m by omega] at h1
            have hn := HN.out
            omega
      · have HC : Hid (∀ d os, Calls Try.prog 15 #[.agg #[.int .i64 (el l k).id, .int .i64 (el l k).kind, .int .i64 (el l k).x, .int .i64 (el l k).y, .int .i64 (el l k).vx, .int .i64 (el l k).vy, .int .i64 (el l k).hp, .int .i64 (el l k).wt]] (grow (redrawn wr d) os) fun e w'' => e = .returned (.bool false) ∧ ∃ p : Regrown, w'' = grow (redrawn wr p.d) p.os) := fun d os => Calls.regrown_of (by
          have := erformed (grow (redrawn wr d) os) (el l k)
          rw [decide_eq_false hF] at this
          exact this)
        have HFF := Lib.hid hF
        clear hF
        refine wp_region_quiet_below (by kernel_rfl) (by kernel_rfl) ?_
        repeat (go_big_quiet_step ((go_at_call 15; with_reducible exact HC.out _ _)))
        refine wpQuiet_nil ?_
        intro _ hw'
        obtain ⟨⟨dq, osq⟩, hw''⟩ := hw'
        subst hw''
        have hbx := below_regrown wr dq osq
        clear E0 E1 E2 E3 E4 E5 E6 E7
        generalize grow (redrawn wr dq) osq = w4 at *
        have hbw : Below w.heap.size w w4 := hb.trans (hbx.mono hb.size)
        go_wp2_with fail
        go_ret
        refine ⟨ret_b ?_, hbw⟩
        rw [eq_comm, listB_false]
        intro h
        exact HFF.out (h k hkn).1
    · obtain rfl : k = l.length := by omega
      go_wp2_with fail
      go_ret
      refine ⟨ret_b ?_, hb⟩
      rw [eq_comm, listB_true]
      exact HF.out

end Go.Proofs.Ytfcncmhcmbghpaa.Ents
