/- Rows of commands, by the program. -/
import Derived.Test.YtioogmicdonbpaaCmd
import Derived.Lib.QuietBelow
import Derived.BigQuiet
set_option linter.unusedVariables false
set_option linter.unusedSimpArgs false
namespace Go.Proofs.Ytioogmicdonbpaa.Cmds
open Go.Sort Go.RowKit Go.Proofs.Ytioogmicdonbpaa.Mem Go.Proofs.Ytioogmicdonbpaa.Open Go.Proofs.Ytioogmicdonbpaa.Num

theorem cells_at {w : World} {v : Value} {l : List Cmd} (h : RdL w v 6 (l.map Cmd.cells)) :
    ∃ A c, v = .slice A l.length c ∧ l.length ≤ c ∧ c ≤ maxLen ∧ ∀ i, i < l.length → ∃ b off, A = some ⟨b, off, none⟩ ∧ b < w.heap.size ∧
      w.cell? ⟨b, off + i * 6, none⟩ = some (.int .u32 (el l i).num) ∧ w.cell? ⟨b, off + i * 6 + 1, none⟩ = some (.int .i8 (el l i).mx) ∧ w.cell? ⟨b, off + i * 6 + 2, none⟩ = some (.int .i8 (el l i).my) ∧
      w.cell? ⟨b, off + i * 6 + 3, none⟩ = some (.bool (el l i).fire) ∧ w.cell? ⟨b, off + i * 6 + 4, none⟩ = some (.int .u32 (el l i).view) ∧ w.cell? ⟨b, off + i * 6 + 5, none⟩ = some (.int .u8 (el l i).frac) := by
  obtain ⟨A, c, hv, hc, hm, hr⟩ := h.form (by decide)
  rw [List.length_map] at hv hc
  refine ⟨A, c, hv, hc, hm, fun i hi => ?_⟩
  obtain ⟨b, off, hA, hb, hr⟩ := hr i (by rw [List.length_map]; exact hi)
  have he : (l.map Cmd.cells)[i]? = some (el l i).cells := by rw [List.getElem?_map, el_get l i hi]; rfl
  exact ⟨b, off, hA, hb, hr _ he 0 _ rfl, hr _ he 1 _ rfl, hr _ he 2 _ rfl, hr _ he 3 _ rfl, hr _ he 4 _ rfl, hr _ he 5 _ rfl⟩

theorem cell_one_new' (w : World) (cs : Array Value) (e : TypeId) (j : Nat) (u : Value) (h : cs[j]? = some u) : (w.alloc (.cells cs e)).cell? ⟨w.heap.size, j, none⟩ = some u := by
  have h1 : (w.alloc (.cells cs e)).heap[w.heap.size]? = some (.cells cs e) := by
    show (w.heap.push _)[w.heap.size]? = _
    simp
  simp only [World.cell?, h1]
  exact h

theorem below_go {N : Nat} {a b c : World} (h : Below N a b) (hN : N = a.heap.size) (k : Below b.heap.size b c) : Below N a c :=
  h.trans (k.mono (by have := h.size; omega))

set_option maxHeartbeats 1000000 in
theorem row (w : World) (v : Value) (l : List Cmd) (hv : RdL w v 6 (l.map Cmd.cells)) (hwf : ∀ c, c ∈ l → c.wf) :
    Calls Try.prog 13 #[v] w fun e' w' => e' = .returned (.bool (rowB l)) ∧ Below w.heap.size w w' := by
  obtain ⟨A, c, rfl, hc, hm, hr⟩ := cells_at hv
  have HR := Lib.hid hr
  have HWF := Lib.hid hwf
  have hml : l.length ≤ maxLen := by omega
  clear hr hv hwf
  go_enter Try.func13, Try.ntmps13
  go_wp2_with fail
  go_loopw [7] (fun i wr => ∃ k : Nat, k ≤ l.length ∧ i = .int .i64 k ∧ Below w.heap.size w wr ∧ Hid (∀ j, j < k → Frm (el l j) ∧ (0 < j → (el l j).num = ((el l (j - 1)).num + 1) % 4294967296)))
    (fun i _ => l.length - (intOf i).toNat)
  case atStart => exact ⟨0, Nat.zero_le _, rfl, Below.refl _ _, Lib.hid (fun j hj => by omega)⟩
  case round =>
    obtain ⟨k, hk, rfl, hb, HF⟩ := hrel
    by_cases hkn : k < l.length
    · obtain ⟨b, off, rfl, hlt, c0, c1, c2, c3, c4, c5⟩ := HR.out k hkn
      have hcw := HWF.out _ (el_mem l k hkn)
      have e0 := (hb.cell (p := ⟨b, off + k * 6, none⟩) hlt).trans c0
      have e1 := (hb.cell (p := ⟨b, off + k * 6 + 1, none⟩) hlt).trans c1
      have e2 := (hb.cell (p := ⟨b, off + k * 6 + 2, none⟩) hlt).trans c2
      have e3 := (hb.cell (p := ⟨b, off + k * 6 + 3, none⟩) hlt).trans c3
      have e4 := (hb.cell (p := ⟨b, off + k * 6 + 4, none⟩) hlt).trans c4
      have e5 := (hb.cell (p := ⟨b, off + k * 6 + 5, none⟩) hlt).trans c5
      have k0 : (0 : Int) ≤ (k : Int) := by omega
      have k1 : (k : Int) < (l.length : Int) := by omega
      clear c0 c1 c2 c3 c4 c5
      go_wp2_with fail
      have hb1 := hb.alloc hb.size (Obj.cells #[Value.int IntKind.u32 (el l k).num, Value.int IntKind.i8 (el l k).mx, Value.int IntKind.i8 (el l k).my, Value.bool (el l k).fire, Value.int IntKind.u32 (el l k).view, Value.int IntKind.u8 (el l k).frac] 28)
      have d0 := cell_one_new' wr #[Value.int IntKind.u32 (el l k).num, Value.int IntKind.i8 (el l k).mx, Value.int IntKind.i8 (el l k).my, Value.bool (el l k).fire, Value.int IntKind.u32 (el l k).view, Value.int IntKind.u8 (el l k).frac] 28
      have d1 := d0 1 _ rfl
      have d2 := d0 2 _ rfl
      have d3 := d0 3 _ rfl
      have d4 := d0 4 _ rfl
      have d5 := d0 5 _ rfl
      replace d0 := d0 0 _ rfl
      have hsz : wr.heap.size < (wr.alloc (Obj.cells #[Value.int IntKind.u32 (el l k).num, Value.int IntKind.i8 (el l k).mx, Value.int IntKind.i8 (el l k).my, Value.bool (el l k).fire, Value.int IntKind.u32 (el l k).view, Value.int IntKind.u8 (el l k).frac] 28)).heap.size := by simp
      clear e0 e1 e2 e3 e4 e5 hb
      generalize wr.alloc (Obj.cells #[Value.int IntKind.u32 (el l k).num, Value.int IntKind.i8 (el l k).mx, Value.int IntKind.i8 (el l k).my, Value.bool (el l k).fire, Value.int IntKind.u32 (el l k).view, Value.int IntKind.u8 (el l k).frac] 28) = W1 at *
      have hB0 : Below W1.heap.size W1 W1 := Below.refl _ _
      generalize wr.heap.size = nb at *
      clear hB0 hsz
      have E0 := cell_regrown d0
      have E1 := cell_regrown d1
      have E2 := cell_regrown d2
      have E3 := cell_regrown d3
      have E4 := cell_regrown d4
      have E5 := cell_regrown d5
      clear d0 d1 d2 d3 d4 d5
      by_cases hF : Frm (el l k)
      · have HC : Hid (∀ d os, Calls Try.prog 17 #[.agg #[.int .u32 (el l k).num, .int .i8 (el l k).mx, .int .i8 (el l k).my, .bool (el l k).fire, .int .u32 (el l k).view, .int .u8 (el l k).frac]] (grow (redrawn W1 d) os) fun e w'' => e = .returned (.bool true) ∧ ∃ p : Regrown, w'' = grow (redrawn W1 p.d) p.os) := fun d os => Calls.regrown_of (by
          have := formed (grow (redrawn W1 d) os) (el l k) hcw
          rw [decide_eq_true hF] at this
          exact this)
        have HFF := Lib.hid hF
        clear hF hcw
        by_cases hk0 : k = 0
        · have t0 : decide ((0 : Int) < (k : Int)) = false := by simp; omega
          have tz : ¬ 0 < k := by omega
          have HK0 := Lib.hid hk0
          clear hk0
          refine wp_region_quiet_below (by kernel_rfl) (by kernel_rfl) ?_
          repeat (go_big_quiet_step ((go_at_call 17; with_reducible exact HC.out _ _)))
          refine wpQuiet_nil ?_
          intro _ hw'
          obtain ⟨⟨dq, osq⟩, hw''⟩ := hw'
          subst hw''
          have hbx := below_regrown W1 dq osq
          clear E0 E1 E2 E3 E4 E5
          generalize grow (redrawn W1 dq) osq = w4 at *
          have hbw : Below w.heap.size w w4 := hb1.trans (hbx.mono hb1.size)
          go_wp2_with fail
          clear tz t0
          refine ⟨⟨k + 1, by omega, by go_num, hbw, fun j hj => ?_⟩, by simp [intOf]; omega⟩
          have hk0 := HK0.out
          obtain rfl : j = k := by omega
          exact ⟨HFF.out, fun h => by omega⟩
        · obtain ⟨m, hm⟩ : ∃ m, k = m + 1 := ⟨k - 1, by omega⟩
          have t0 : decide ((0 : Int) < (k : Int)) = true := by simp; omega
          have tz : 0 < k := by omega
          have tw : IntKind.i64.wrap ((k : Int) - 1) = (m : Int) := by rw [wrap_i64]; unfold wrap64; unfold maxLen at *; omega
          have m0 : (0 : Int) ≤ (m : Int) := by omega
          have m1 : (m : Int) < (l.length : Int) := by omega
          obtain ⟨b', off', hA, _, d6, _⟩ := HR.out m (by omega)
          obtain ⟨rfl, rfl⟩ : b = b' ∧ off = off' := by injection hA with hA; injection hA with h1 h2 h3; exact ⟨h1, h2⟩
          clear hA
          replace d6 := (hb1.cell (p := ⟨b, off + m * 6, none⟩) hlt).trans d6
          have E6 := cell_regrown d6
          clear d6
          have HM := Lib.hid hm
          have HMN := Lib.hid (show m < l.length by omega)
          clear hm hk0
          by_cases hN : (el l k).num = ((el l m).num + 1) % 4294967296
          · have t1 : ((el l k).num != IntKind.u32.wrap ((el l m).num + 1)) = false := by rw [wrap_u32, ← hN]; simp
            have t2 : ((el l k).num != ((el l m).num + 1) % 4294967296) = false := by rw [← hN]; simp
            have HN := Lib.hid hN
            clear hN
            refine wp_region_quiet_below (by kernel_rfl) (by kernel_rfl) ?_
            repeat (go_big_quiet_step ((go_at_call 17; with_reducible exact HC.out _ _)))
            refine wpQuiet_nil ?_
            intro _ hw'
            obtain ⟨⟨dq, osq⟩, hw''⟩ := hw'
            subst hw''
            have hbx := below_regrown W1 dq osq
            clear E0 E1 E2 E3 E4 E5 E6
            generalize grow (redrawn W1 dq) osq = w4 at *
            have hbw : Below w.heap.size w w4 := hb1.trans (hbx.mono hb1.size)
            go_wp2_with fail
            clear tz t0 t1 t2 tw m0 m1
            have tw1 : wrap64 ((k : Int) + 1) = (k : Int) + 1 := by unfold wrap64; unfold maxLen at *; omega
            simp only [tw1]
            refine ⟨⟨k + 1, by omega, by go_num, hbw, fun j hj => ?_⟩, by simp [intOf]; omega⟩
            have hm := HM.out
            by_cases hjk : j < k
            · exact HF.out j hjk
            · obtain rfl : j = k := by omega
              refine ⟨HFF.out, fun _ => ?_⟩
              rw [show j - 1 = m by omega]
              exact HN.out
          · have t1 : ((el l k).num != IntKind.u32.wrap ((el l m).num + 1)) = true := by rw [wrap_u32]; simpa using hN
            have t2 : ((el l k).num != ((el l m).num + 1) % 4294967296) = true := by simpa using hN
            have HN := Lib.hid hN
            clear hN
            refine wp_region_quiet_below (by kernel_rfl) (by kernel_rfl) ?_
            repeat (go_big_quiet_step ((go_at_call 17; with_reducible exact HC.out _ _)))
            refine wpQuiet_nil ?_
            intro _ hw'
            obtain ⟨⟨dq, osq⟩, hw''⟩ := hw'
            subst hw''
            have hbx := below_regrown W1 dq osq
            clear E0 E1 E2 E3 E4 E5 E6
            generalize grow (redrawn W1 dq) osq = w4 at *
            have hbw : Below w.heap.size w w4 := hb1.trans (hbx.mono hb1.size)
            go_wp2_with fail
            clear tz t0 t1 t2 tw m0 m1
            go_ret
            refine ⟨ret_b ?_, hbw⟩
            rw [eq_comm, rowB_false, ← isRow_iff]
            intro h
            have hm := HM.out
            have h1 := (h.2 k hkn).2 (by omega)
            rw [show k - 1 = m by omega] at h1
            exact HN.out h1
      · have HC : Hid (∀ d os, Calls Try.prog 17 #[.agg #[.int .u32 (el l k).num, .int .i8 (el l k).mx, .int .i8 (el l k).my, .bool (el l k).fire, .int .u32 (el l k).view, .int .u8 (el l k).frac]] (grow (redrawn W1 d) os) fun e w'' => e = .returned (.bool false) ∧ ∃ p : Regrown, w'' = grow (redrawn W1 p.d) p.os) := fun d os => Calls.regrown_of (by
          have := formed (grow (redrawn W1 d) os) (el l k) hcw
          rw [decide_eq_false hF] at this
          exact this)
        have HFF := Lib.hid hF
        clear hF hcw
        refine wp_region_quiet_below (by kernel_rfl) (by kernel_rfl) ?_
        repeat (go_big_quiet_step ((go_at_call 17; with_reducible exact HC.out _ _)))
        refine wpQuiet_nil ?_
        intro _ hw'
        obtain ⟨⟨dq, osq⟩, hw''⟩ := hw'
        subst hw''
        have hbx := below_regrown W1 dq osq
        clear E0 E1 E2 E3 E4 E5
        generalize grow (redrawn W1 dq) osq = w4 at *
        have hbw : Below w.heap.size w w4 := hb1.trans (hbx.mono hb1.size)
        go_wp2_with fail
        go_ret
        refine ⟨ret_b ?_, hbw⟩
        rw [eq_comm, rowB_false, ← isRow_iff]
        intro h
        exact HFF.out (h.2 k hkn).1
    · obtain rfl : k = l.length := by omega
      go_wp2_with fail
      all_goals
        go_ret
        refine ⟨ret_b ?_, hb⟩
        have hff := HF.out
        rw [Bool.eq_iff_iff, rowB_true, ← isRow_iff]
        unfold IsRow'
        constructor
        · intro h
          first
            | (simp at h; done)
            | (simp at h; exact ⟨⟨by omega, by omega⟩, hff⟩)
        · intro h
          have h8 := h.1
          first
            | omega
            | (simp; omega)

end Go.Proofs.Ytioogmicdonbpaa.Cmds
