/- The law EntityForms: of all entities, and lists, it is told whether they are formed, and where an ID stands. For all lists and numbers; no condition. Here: the walk. -/
import Derived.Test.YtfcncmhcmbghpaaERList
import Derived.Test.YtfcncmhcmbghpaaAwake10
import Derived.Test.YtfcncmhcmbghpaaEntOpen
set_option linter.unusedVariables false
set_option linter.unusedSimpArgs false
namespace Go.Proofs.Ytfcncmhcmbghpaa.Ents
open Go.Sort Go.RowKit Go.Proofs.Ytfcncmhcmbghpaa.Mem Go.Proofs.Ytfcncmhcmbghpaa.Open Go.Proofs.Ytfcncmhcmbghpaa.Num Go.Proofs.Ytfcncmhcmbghpaa.Step

set_option maxHeartbeats 1000000 in
theorem entityForms_core (w : World) (v : Value) (l : List Enty) (hv : RdL w v 8 (l.map Enty.cells)) (id : Int) :
    Calls Try.prog 3 #[v, .int .i64 id] w fun e' w' => e' = .returned (.bool true) ∧ Below w.heap.size w w' := by
  have HV := Lib.hid hv
  obtain ⟨A, c, rfl, hc, hm, hr⟩ := cells_at hv
  have HR := Lib.hid hr
  clear hr hv hm
  by_cases hbig : 100 < l.length
  · have hb : (100 : Int) < (l.length : Int) := by omega
    go_enter Try.func3, Try.ntmps3
    go_wp2_with fail
    refine (awake10 _).mono ?_
    rintro e' w1 ⟨rfl, h1⟩
    go_wp2_with fail
    refine (awake10 _).mono ?_
    rintro e' w3 ⟨rfl, h4⟩
    go_wp2_with fail
    go_ret
    exact ⟨rfl, h1.trans (h4.mono h1.size)⟩
  · have hb : ¬ (100 : Int) < (l.length : Int) := by omega
    go_enter Try.func3, Try.ntmps3
    go_wp2_with fail
    refine (awake10 _).mono ?_
    rintro e' w1 ⟨rfl, h1⟩
    go_wp2_with fail
    go_loopw [5] (fun i wr => ∃ k : Nat, k ≤ l.length ∧ i = .int .i64 k ∧ Below w.heap.size w wr)
      (fun i _ => l.length - (intOf i).toNat)
    case atStart => exact ⟨0, Nat.zero_le _, rfl, h1⟩
    case round =>
      clear h1
      obtain ⟨k, hk, rfl, hb⟩ := hrel
      by_cases hkn : k < l.length
      · obtain ⟨b, off, rfl, hlt, c0, c1, c2, c3, c4, c5, c6, c7⟩ := HR.out k hkn
        have HTS := Lib.hid (succ_len k (show k < maxLen by unfold maxLen; omega))
        have E0 := cell_regrown ((hb.cell (p := ⟨b, off + k * 8, none⟩) hlt).trans c0)
        have E1 := cell_regrown ((hb.cell (p := ⟨b, off + k * 8 + 1, none⟩) hlt).trans c1)
        have E2 := cell_regrown ((hb.cell (p := ⟨b, off + k * 8 + 2, none⟩) hlt).trans c2)
        have E3 := cell_regrown ((hb.cell (p := ⟨b, off + k * 8 + 3, none⟩) hlt).trans c3)
        have E4 := cell_regrown ((hb.cell (p := ⟨b, off + k * 8 + 4, none⟩) hlt).trans c4)
        have E5 := cell_regrown ((hb.cell (p := ⟨b, off + k * 8 + 5, none⟩) hlt).trans c5)
        have E6 := cell_regrown ((hb.cell (p := ⟨b, off + k * 8 + 6, none⟩) hlt).trans c6)
        have E7 := cell_regrown ((hb.cell (p := ⟨b, off + k * 8 + 7, none⟩) hlt).trans c7)
        have k0 : (0 : Int) ≤ (k : Int) := by omega
        have k1 : (k : Int) < (l.length : Int) := by omega
        clear c0 c1 c2 c3 c4 c5 c6 c7
        obtain ⟨fb, hfb⟩ : ∃ fb, decide (EFrm (el l k)) = fb := ⟨_, rfl⟩
        have HC : Hid (∀ d os, Calls Try.prog 14 #[.agg #[.int .i64 (el l k).id, .int .i64 (el l k).kind, .int .i64 (el l k).x, .int .i64 (el l k).y, .int .i64 (el l k).vx, .int .i64 (el l k).vy, .int .i64 (el l k).hp, .int .i64 (el l k).wt]] (grow (redrawn wr d) os) fun e w'' => e = .returned (.bool fb) ∧ ∃ p : Regrown, w'' = grow (redrawn wr p.d) p.os) := fun d os => Calls.regrown_of (by
          have := eformed (grow (redrawn wr d) os) (el l k)
          rw [hfb] at this
          exact this)
        have HD : Hid (∀ d os, Calls Try.prog 15 #[.agg #[.int .i64 (el l k).id, .int .i64 (el l k).kind, .int .i64 (el l k).x, .int .i64 (el l k).y, .int .i64 (el l k).vx, .int .i64 (el l k).vy, .int .i64 (el l k).hp, .int .i64 (el l k).wt]] (grow (redrawn wr d) os) fun e w'' => e = .returned (.bool fb) ∧ ∃ p : Regrown, w'' = grow (redrawn wr p.d) p.os) := fun d os => Calls.regrown_of (by
          have := erformed (grow (redrawn wr d) os) (el l k)
          rw [hfb] at this
          exact this)
        have te : (fb != fb) = false := by simp
        clear hfb
        go_wp2_with fail
        refine wp_region_quiet_below (by kernel_rfl) (by kernel_rfl) ?_
        repeat (go_big_quiet_step (first | (go_at_call 14; with_reducible exact HC.out _ _) | (go_at_call 15; with_reducible exact HD.out _ _)))
        refine wpQuiet_nil ?_
        intro _ hw'
        obtain ⟨⟨dq, osq⟩, hw''⟩ := hw'
        subst hw''
        have hbx := below_regrown wr dq osq
        clear E0 E1 E2 E3 E4 E5 E6 E7
        generalize grow (redrawn wr dq) osq = w4 at *
        have hbw : Below w.heap.size w w4 := hb.trans (hbx.mono hb.size)
        go_wp2_with fail
        try rw [HTS.out]
        exact ⟨⟨k + 1, by omega, cast_succ k, hbw⟩, succ_less hkn⟩
      · obtain rfl : k = l.length := by omega
        obtain ⟨lb, hlb⟩ : ∃ lb, listB l = lb := ⟨_, rfl⟩
        have h1 := elist wr _ l (RdL.below HV.out hb)
        rw [hlb] at h1
        have H1 := Lib.hid h1
        have te : (lb == lb) = true := by simp
        clear h1
        go_wp2_with fail
        refine H1.out.mono ?_
        rintro e' w2 ⟨rfl, h2⟩
        have hb2 := hb.trans (h2.mono hb.size)
        have h3 := erlist w2 _ l (RdL.below HV.out hb2)
        rw [hlb] at h3
        have H3 := Lib.hid h3
        clear h3 H1 h2
        go_wp2_with fail
        refine H3.out.mono ?_
        rintro e' w3 ⟨rfl, h3⟩
        have hb3 := hb2.trans (h3.mono hb2.size)
        have h4 := efind w3 _ l id (RdL.below HV.out hb3)
        have H4 := Lib.hid h4
        clear h4 H3 h3
        go_wp2_with fail
        refine H4.out.mono ?_
        rintro e' w4 ⟨rfl, h4⟩
        have hb4 := hb3.trans (h4.mono hb3.size)
        have h5 := erfind w4 _ l id (RdL.below HV.out hb4)
        have H5 := Lib.hid h5
        clear h5 H4 h4
        go_wp2_with fail
        refine H5.out.mono ?_
        rintro e' w5 ⟨rfl, rfl⟩
        go_wp2_with fail
        go_ret
        exact ⟨ret_b (by simp), hb4⟩

theorem entityForms (w : World) {H : Type} {enc : TypeId × Value → H} {base base' : Nat} {sp : Nat → Bool} {held : Bool} {d : DataW H} {ps : List MemPlace} {r : Reach} (v : Value)
    (hok : Value.okWide Try.prog w r base' 22 v) (h : DataW.Trod enc Try.prog w base sp held 22 v d ps) (a : Int) (wa : (Lit.int .i64 a).wf = true) :
    Calls Try.prog 3 #[v, .int .i64 a] w fun e' w' => e' = .returned (.bool true) ∧ Below w.heap.size w w' := by
  obtain ⟨l, hv, hwf⟩ := open_ents hok h
  exact entityForms_core w v l hv a

end Go.Proofs.Ytfcncmhcmbghpaa.Ents
