/- Rows of commands, by the reference. -/
import Derived.Test.YtioogmicdonbpaaRow
set_option linter.unusedVariables false
set_option linter.unusedSimpArgs false
namespace Go.Proofs.Ytioogmicdonbpaa.Cmds
open Go.Sort Go.RowKit Go.Proofs.Ytioogmicdonbpaa.Mem Go.Proofs.Ytioogmicdonbpaa.Open Go.Proofs.Ytioogmicdonbpaa.Num

theorem id64 (a : Int) (h0 : 0 ≤ a) (h1 : a ≤ 4294967295) : IntKind.i64.wrap a = a := by rw [wrap_i64]; unfold wrap64; omega
theorem sum64 (a k : Int) (h0 : 0 ≤ a) (h1 : a ≤ 4294967295) (h2 : 0 ≤ k) (h3 : k ≤ 8) : IntKind.i64.wrap (a + k) = a + k := by rw [wrap_i64]; unfold wrap64; omega
theorem succ64 (k : Int) (h2 : 0 ≤ k) (h3 : k ≤ 8) : wrap64 (k + 1) = k + 1 := by unfold wrap64; omega

set_option maxHeartbeats 1000000 in
theorem rrow (w : World) (v : Value) (l : List Cmd) (hv : RdL w v 6 (l.map Cmd.cells)) (hwf : ∀ c, c ∈ l → c.wf) :
    Calls Try.prog 19 #[v] w fun e' w' => e' = .returned (.bool (rowB l)) ∧ Below w.heap.size w w' := by
  obtain ⟨A, c, rfl, hc, hm, hr⟩ := cells_at hv
  have HR := Lib.hid hr
  have HWF := Lib.hid hwf
  have hml : l.length ≤ maxLen := by omega
  clear hr hv hwf
  by_cases hlen : 1 ≤ l.length ∧ l.length ≤ 8
  case neg =>
    have hno : ¬ IsRow l := fun h => hlen h.1
    rw [(rowB_false l).2 hno]
    by_cases h0 : l.length = 0
    · have t0 : ((l.length : Int) == 0) = true := by simp [h0]
      have HH := Lib.hid h0
      clear h0 hlen
      go_enter Try.func19, Try.ntmps19
      go_wp2_with fail
      go_ret
      exact ⟨rfl, Below.refl _ _⟩
    · have t0 : ((l.length : Int) == 0) = false := beq_eq_false_iff_ne.2 (by omega)
      have t1 : (8 : Int) < (l.length : Int) := by omega
      clear h0 hlen
      go_enter Try.func19, Try.ntmps19
      go_wp2_with fail
      go_ret
      exact ⟨rfl, Below.refl _ _⟩
  case pos =>
    obtain ⟨hl1, hl8⟩ := hlen
    have t0 : ((l.length : Int) == 0) = false := beq_eq_false_iff_ne.2 (by omega)
    have t1 : ¬ (8 : Int) < (l.length : Int) := by omega
    obtain ⟨b, off, rfl, hlt, z0, _⟩ := HR.out 0 (by omega)
    go_enter Try.func19, Try.ntmps19
    go_wp2_with fail
    clear t0 t1
    go_loopw [3] (fun i wr => ∃ k : Nat, k ≤ l.length ∧ i = .int .i64 k ∧ Below w.heap.size w wr ∧ Hid (∀ j, j < k → Frm (el l j) ∧ (el l j).num = (el l 0).num + j))
      (fun i _ => l.length - (intOf i).toNat)
    case atStart => exact ⟨0, Nat.zero_le _, rfl, Below.refl _ _, Lib.hid (fun j hj => by omega)⟩
    case round =>
      obtain ⟨k, hk, rfl, hb, HF⟩ := hrel
      by_cases hkn : k < l.length
      · obtain ⟨b', off', hA, _, c0, c1, c2, c3, c4, c5⟩ := HR.out k hkn
        obtain ⟨rfl, rfl⟩ : b = b' ∧ off = off' := by injection hA with hA; injection hA with h1 h2 h3; exact ⟨h1, h2⟩
        clear hA
        have hcw := HWF.out _ (el_mem l k hkn)
        have hcz := HWF.out _ (el_mem l 0 (by omega))
        have E0 := cell_regrown ((hb.cell (p := ⟨b, off + k * 6, none⟩) hlt).trans c0)
        have E1 := cell_regrown ((hb.cell (p := ⟨b, off + k * 6 + 1, none⟩) hlt).trans c1)
        have E2 := cell_regrown ((hb.cell (p := ⟨b, off + k * 6 + 2, none⟩) hlt).trans c2)
        have E3 := cell_regrown ((hb.cell (p := ⟨b, off + k * 6 + 3, none⟩) hlt).trans c3)
        have E4 := cell_regrown ((hb.cell (p := ⟨b, off + k * 6 + 4, none⟩) hlt).trans c4)
        have E5 := cell_regrown ((hb.cell (p := ⟨b, off + k * 6 + 5, none⟩) hlt).trans c5)
        have z0' : w.cell? ⟨b, off, none⟩ = some (.int .u32 (el l 0).num) := by simpa using z0
        have E6 := cell_regrown ((hb.cell (p := ⟨b, off, none⟩) hlt).trans z0')
        have k0 : (0 : Int) ≤ (k : Int) := by omega
        have k1 : (k : Int) < (l.length : Int) := by omega
        have l0 : (0 : Int) < (l.length : Int) := by omega
        clear c0 c1 c2 c3 c4 c5 z0'
        have tw1 : wrap64 ((k : Int) + 1) = (k : Int) + 1 := succ64 _ k0 (by omega)
        have wk : IntKind.i64.wrap (el l k).num = (el l k).num := id64 _ hcw.1.1 hcw.1.2
        have wz : IntKind.i64.wrap (el l 0).num = (el l 0).num := id64 _ hcz.1.1 hcz.1.2
        have ws : IntKind.i64.wrap ((el l 0).num + (k : Int)) = (el l 0).num + (k : Int) := sum64 _ _ hcz.1.1 hcz.1.2 k0 (by omega)
        clear hcz
        by_cases hF : Frm (el l k)
        · have HC : Hid (∀ d os, Calls Try.prog 18 #[.agg #[.int .u32 (el l k).num, .int .i8 (el l k).mx, .int .i8 (el l k).my, .bool (el l k).fire, .int .u32 (el l k).view, .int .u8 (el l k).frac]] (grow (redrawn wr d) os) fun e w'' => e = .returned (.bool true) ∧ ∃ p : Regrown, w'' = grow (redrawn wr p.d) p.os) := fun d os => Calls.regrown_of (by
            have := rformed (grow (redrawn wr d) os) (el l k) hcw
            rw [decide_eq_true hF] at this
            exact this)
          have HFF := Lib.hid hF
          clear hF hcw
          by_cases hN : (el l k).num = (el l 0).num + (k : Int)
          · have t1 : ((el l k).num != (el l 0).num + (k : Int)) = false := by rw [← hN]; simp
            have HN := Lib.hid hN
            clear hN
            go_wp2_with fail
            refine wp_region_quiet_below (by kernel_rfl) (by kernel_rfl) ?_
            repeat (go_big_quiet_step ((go_at_call 18; with_reducible exact HC.out _ _)))
            refine wpQuiet_nil ?_
            intro _ hw'
            obtain ⟨⟨dq, osq⟩, hw''⟩ := hw'
            subst hw''
            have hbx := below_regrown wr dq osq
            clear E0 E1 E2 E3 E4 E5 E6
            generalize grow (redrawn wr dq) osq = w4 at *
            have hbw : Below w.heap.size w w4 := hb.trans (hbx.mono hb.size)
            go_wp2_with fail
            clear t1 wk wz ws l0
            try simp only [tw1]
            refine ⟨⟨k + 1, by omega, by go_num, hbw, fun j hj => ?_⟩, by simp [intOf]; omega⟩
            by_cases hjk : j < k
            · exact HF.out j hjk
            · obtain rfl : j = k := by omega
              exact ⟨HFF.out, HN.out⟩
          · have t1 : ((el l k).num != (el l 0).num + (k : Int)) = true := by simpa using hN
            have HN := Lib.hid hN
            clear hN
            go_wp2_with fail
            refine wp_region_quiet_below (by kernel_rfl) (by kernel_rfl) ?_
            repeat (go_big_quiet_step ((go_at_call 18; with_reducible exact HC.out _ _)))
            refine wpQuiet_nil ?_
            intro _ hw'
            obtain ⟨⟨dq, osq⟩, hw''⟩ := hw'
            subst hw''
            have hbx := below_regrown wr dq osq
            clear E0 E1 E2 E3 E4 E5 E6
            generalize grow (redrawn wr dq) osq = w4 at *
            have hbw : Below w.heap.size w w4 := hb.trans (hbx.mono hb.size)
            go_wp2_with fail
            go_ret
            refine ⟨ret_b ?_, hbw⟩
            rw [eq_comm, rowB_false]
            intro h
            exact HN.out (h.2 k hkn).2
        · have HC : Hid (∀ d os, Calls Try.prog 18 #[.agg #[.int .u32 (el l k).num, .int .i8 (el l k).mx, .int .i8 (el l k).my, .bool (el l k).fire, .int .u32 (el l k).view, .int .u8 (el l k).frac]] (grow (redrawn wr d) os) fun e w'' => e = .returned (.bool false) ∧ ∃ p : Regrown, w'' = grow (redrawn wr p.d) p.os) := fun d os => Calls.regrown_of (by
            have := rformed (grow (redrawn wr d) os) (el l k) hcw
            rw [decide_eq_false hF] at this
            exact this)
          have HFF := Lib.hid hF
          clear hF hcw
          go_wp2_with fail
          refine wp_region_quiet_below (by kernel_rfl) (by kernel_rfl) ?_
          repeat (go_big_quiet_step ((go_at_call 18; with_reducible exact HC.out _ _)))
          refine wpQuiet_nil ?_
          intro _ hw'
          obtain ⟨⟨dq, osq⟩, hw''⟩ := hw'
          subst hw''
          have hbx := below_regrown wr dq osq
          clear E0 E1 E2 E3 E4 E5 E6
          generalize grow (redrawn wr dq) osq = w4 at *
          have hbw : Below w.heap.size w w4 := hb.trans (hbx.mono hb.size)
          go_wp2_with fail
          go_ret
          refine ⟨ret_b ?_, hbw⟩
          rw [eq_comm, rowB_false]
          intro h
          exact HFF.out (h.2 k hkn).1
      · obtain rfl : k = l.length := by omega
        go_wp2_with fail
        go_ret
        refine ⟨ret_b ?_, hb⟩
        rw [eq_comm, rowB_true]
        exact ⟨⟨hl1, hl8⟩, HF.out⟩

end Go.Proofs.Ytioogmicdonbpaa.Cmds
