/- The reference's assembler: Feed, by the program. -/
import Derived.Test.YtpnnalkihcemhaaFeedsR
import Derived.Test.YtpnnalkihcemhaaFeedsD
import Derived.Test.YtpnnalkihcemhaaApp2
import Derived.Test.YtpnnalkihcemhaaFeedS
import Derived.Test.YtpnnalkihcemhaaMix2
import Derived.Deep.CutRange
set_option linter.unusedVariables false
set_option linter.unusedSimpArgs false
namespace Go.Proofs.Ytpnnalkihcemhaa.Frag
open Go.Sort Go.RowKit Go.Deep Go.Proofs.Ytpnnalkihcemhaa.Mem Go.Proofs.Ytpnnalkihcemhaa.Open Go.Proofs.Ytpnnalkihcemhaa.Num Go.Proofs.Ytpnnalkihcemhaa.Wr Go.Proofs.Ytpnnalkihcemhaa.Bits Go.Proofs.Ytpnnalkihcemhaa.Step Go.Proofs.YtpnnalkihcemhaaW.PrintWords

/-- What the reference's Feed answers. -/
def RFeedPost (W : World) (b : Nat) (L : List (RP × Value)) (bs : List Int) (F : List Ent) (e' : Ending) (w' : World) : Prop :=
  ∃ L' Ao co, L'.map (·.1) = (refA (L.map (·.1)) bs).1 ∧ e' = .returned (.tuple #[.slice Ao ((refA (L.map (·.1)) bs).2.out.getD []).length co, .bool (refA (L.map (·.1)) bs).2.out.isSome, .int .i64 (refA (L.map (·.1)) bs).2.er]) ∧
    Rd w' (.slice Ao ((refA (L.map (·.1)) bs).2.out.getD []).length co) ((refA (L.map (·.1)) bs).2.out.getD []).length (nums .u8 ((refA (L.map (·.1)) bs).2.out.getD [])) ∧ RA W w' b L' F

set_option maxRecDepth 100000 in
set_option maxHeartbeats 2000000 in
theorem rfeed (W w : World) (b : Nat) (L : List (RP × Value)) (F : List Ent) (A : Option Addr) (c : Nat) (bs : List Int) (hR : RA W w b L F) (hl : L.length + 1 ≤ 1000) (hl2 : L.length ≤ 190) (hr : Rd W (.slice A bs.length c) bs.length (nums .u8 bs)) (hb : bytesOk bs) :
    Calls Try.prog 20 #[.pointer (some ⟨b, 0, none⟩), .slice A bs.length c] w fun e' w' => RFeedPost W b L bs F e' w' := by
  obtain ⟨hl0, hok, v, hH⟩ := hR
  obtain ⟨Av, cv, rfl⟩ := hH.up1.slice
  have hrd := rread W w _ A c bs hH hr hb
  have HRD := Lib.hid hrd
  have HL := Lib.hid hl
  have HL2 := Lib.hid hl2
  have HOK := Lib.hid hok
  clear hH hl0 hl hl2 hok hrd hr hb
  go_enter Try.func20, Try.ntmps20
  go_wp2_with fail
  refine HRD.out.mono ?_
  rintro e' w1 ⟨x, Ax, nx, cx, rfl, h1, hx⟩
  obtain ⟨ok, hok⟩ : ∃ ok, okPart bs = ok := ⟨_, rfl⟩
  rw [hok] at hx ⊢
  have HX := Lib.hid (And.intro hok hx)
  have H1 := Lib.hid h1
  clear h1 hx hok HRD
  simp only [pcells]
  cases ok with
  | false =>
    go_wp2_with fail
    have hra : refA (L.map (·.1)) bs = (L.map (·.1), ⟨none, 2⟩) := by unfold refA; rw [if_pos HX.out.1]
    refine bodyPost_ret (results_tmp3 rfl _ _ _) rfl ⟨L, none, 0, by rw [hra], by rw [hra]; rfl, by rw [hra]; exact .inl ⟨rfl, rfl, rfl⟩, Nat.le_trans (Nat.le_succ _) HL.out, HOK.out, .slice Av L.length cv, ?_⟩
    exact H1.out.alloc' _
  | true =>
    obtain ⟨hxe, hxok⟩ := HX.out.2 rfl
    have h2 := H1.out.alloc [.int .u16 x.id, .int .i64 x.n, .int .i64 x.at_, .slice Ax nx cx] 117
    obtain ⟨g7, hg7⟩ : ∃ g7, w1.heap.size = g7 := ⟨_, rfl⟩
    rw [hg7] at h2
    have H2 := Lib.hid h2
    have HXO := Lib.hid (And.intro hxe hxok)
    clear h2 hxe hxok
    go_wp2_with fail
    clear hg7
    change Code.wp _ _ _ _ (w1.alloc (.cells [Value.int .u16 x.id, .int .i64 x.n, .int .i64 x.at_, .slice Ax nx cx].toArray 117))
    generalize w1.alloc (.cells [Value.int .u16 x.id, .int .i64 x.n, .int .i64 x.at_, .slice Ax nx cx].toArray 117) = w2 at *
    go_loopw [9, 10] (fun nv iv wr => ∃ i : Nat, Hid (i ≤ L.length) ∧ iv = .int .i64 i ∧ nv = .int .i64 ((cntTo L x i : Nat) : Int) ∧ Hid (NoOld L x i) ∧ Hid (Below w2.heap.size w2 wr)) (fun _ iv _ => L.length - (intOf iv).toNat)
    case atStart => exact ⟨0, Lib.hid (Nat.zero_le _), rfl, rfl, Lib.hid (by intro y hy; simp at hy), Lib.hid (Below.refl _ _)⟩
    case round =>
      obtain ⟨i, HI, rfl, rfl, HNO, HB⟩ := hrel
      have hC := Holds.belowed H2.out HB.out
      have e0 := hC.up1.cell 0 rfl
      by_cases hin : i < L.length
      · obtain ⟨g, cap, he, _⟩ := hC.up2.row (Nat.lt_of_le_of_lt (Nat.zero_le _) hin)
        simp only [Value.slice.injEq, true_and] at he
        obtain ⟨rfl, rfl⟩ := he
        obtain ⟨y, hy⟩ : ∃ y, L[i]? = some y := ⟨_, List.getElem?_eq_getElem hin⟩
        obtain ⟨k0, k1, k2, k3⟩ := fi_facts hin (Nat.le_trans (Nat.le_succ _) HL.out)
        obtain ⟨bb, hbb⟩ : ∃ bb, mineB y.1 x = bb := ⟨_, rfl⟩
        obtain ⟨z, hz⟩ : ∃ z, cntTo L x i = z := ⟨_, rfl⟩
        obtain ⟨w1', w2'⟩ := w_facts (z := z) (i := i) (hz ▸ cntTo_le L x i) (Nat.le_trans HI.out (Nat.le_trans (Nat.le_succ _) HL.out))
        have hnx := cntTo_next (x := x) hy
        rw [hz, hbb] at hnx
        rw [hz]
        have HC : Hid _ := Lib.hid (mine_quiet wr y (x, .slice Ax nx cx) hbb)
        have d0 := (hC.up2.rcell (i * 4 + 0) (cell_lt hin (by decide))).trans (prow_at L i y hy 0 (by decide))
        have d1 := (hC.up2.rcell (i * 4 + 1) (cell_lt hin (by decide))).trans (prow_at L i y hy 1 (by decide))
        have d2 := (hC.up2.rcell (i * 4 + 2) (cell_lt hin (by decide))).trans (prow_at L i y hy 2 (by decide))
        have d3 := (hC.up2.rcell (i * 4 + 3) (cell_lt hin (by decide))).trans (prow_at L i y hy 3 (by decide))
        have c0 := hC.cell 0 rfl
        have c1 := hC.cell 1 rfl
        have c2 := hC.cell 2 rfl
        have c3 := hC.cell 3 rfl
        simp only [pcells, List.getElem?_cons_zero, List.getElem?_cons_succ, Nat.add_zero] at d0 d1 d2 d3
        have HNX := Lib.hid (And.intro hnx hbb)
        have HY := Lib.hid hy
        have HIN := Lib.hid hin
        have E0 := cell_regrown e0
        have D0 := cell_regrown d0
        have D1 := cell_regrown d1
        have D2 := cell_regrown d2
        have D3 := cell_regrown d3
        have C0 := cell_regrown c0
        have C1 := cell_regrown c1
        have C2 := cell_regrown c2
        have C3 := cell_regrown c3
        clear hy hnx hbb hin hz d0 d1 d2 d3 c0 c1 c2 c3 hC
        go_upto_region 8 with (fail)
        refine wp_region_quiet_below (by kernel_rfl) (by kernel_rfl) ?_
        repeat (go_big_quiet_step ((go_at_call 51; with_reducible exact HC.out _ _)))
        refine wpQuiet_nil ?_
        intro _ hw'
        obtain ⟨⟨dq, osq⟩, hw''⟩ := hw'
        subst hw''
        have HB3 := Lib.hid (HB.out.trans ((below_regrown wr dq osq).mono HB.out.size))
        clear E0 D0 D1 D2 D3 C0 C1 C2 C3 HC e0
        generalize grow (redrawn wr dq) osq = w4 at *
        cases bb with
        | false =>
          go_wp2_with fail
          exact ⟨⟨i + 1, Lib.hid HIN.out, by go_num, by rw [HNX.out.1]; rfl, Lib.hid (HNO.out.next HY.out (by rw [HNX.out.2]; rfl)), HB3⟩, fi_down HIN.out⟩
        | true =>
          obtain ⟨tt, htt⟩ : ∃ tt, (y.1.at_ == x.at_) = tt := ⟨_, rfl⟩
          have hC4 := Holds.belowed H2.out HB3.out
          have e0 := hC4.up1.cell 0 rfl
          have d2 := (hC4.up2.rcell (i * 4 + 2) (cell_lt HIN.out (by decide))).trans (prow_at L i y HY.out 2 (by decide))
          have c2 := hC4.cell 2 rfl
          simp only [pcells, List.getElem?_cons_zero, List.getElem?_cons_succ] at d2
          have E0 := cell_regrown e0
          have D2 := cell_regrown d2
          have C2 := cell_regrown c2
          have HTT := Lib.hid htt
          clear e0 d2 c2 hC4
          go_upto_region 10 with (fail)
          refine wp_region_quiet_below (by kernel_rfl) (by kernel_rfl) ?_
          repeat (go_big_quiet_step (fail))
          refine wpQuiet_nil ?_
          intro _ hw'
          obtain ⟨⟨dq2, osq2⟩, hw''⟩ := hw'
          subst hw''
          have HB4 := Lib.hid (HB3.out.trans ((below_regrown w4 dq2 osq2).mono HB3.out.size))
          clear E0 D2 C2
          generalize grow (redrawn w4 dq2) osq2 = w5 at *
          cases tt with
          | false =>
            go_wp2_with fail
            exact ⟨⟨i + 1, Lib.hid HIN.out, by go_num, by rw [HNX.out.1]; rfl, Lib.hid (HNO.out.next HY.out (by rw [HTT.out, Bool.and_false])), HB4⟩, fi_down HIN.out⟩
          | true =>
            go_wp2_with fail
            have hra : refA (L.map (·.1)) bs = (L.map (·.1), ⟨none, 8⟩) := by
              unfold refA
              rw [if_neg (by rw [HX.out.1]; decide), if_pos]
              rw [List.any_eq_true]
              refine ⟨y.1, List.mem_map.2 ⟨y, List.mem_of_getElem? HY.out, rfl⟩, ?_⟩
              rw [← HXO.out.1, HNX.out.2, HTT.out]
              rfl
            refine bodyPost_ret (results_tmp3 rfl _ _ _) rfl ⟨L, none, 0, by rw [hra], by rw [hra]; rfl, by rw [hra]; exact .inl ⟨rfl, rfl, rfl⟩, Nat.le_trans (Nat.le_succ _) HL.out, HOK.out, .slice (some ⟨g, 0, none⟩) L.length cv, ?_⟩
            exact (Holds.belowed H2.out HB4.out).tail
      · obtain rfl : i = L.length := Nat.le_antisymm HI.out (Nat.le_of_not_lt hin)
        have k9 : ¬ (L.length : Int) < (L.length : Int) := Int.lt_irrefl _
        obtain ⟨z, hz⟩ : ∃ z, cntTo L x L.length = z := ⟨_, rfl⟩
        have hra : RA W wr b L (.st g7 [.int .u16 x.id, .int .i64 x.n, .int .i64 x.at_, .slice Ax nx cx] 117 :: F) := ⟨Nat.le_trans (Nat.le_succ _) HL.out, HOK.out, .slice Av L.length cv, by
          have := Holds.sel [_, _, _] hC [1, 2, 0] rfl
          exact this⟩
        have hwt := rwaits W wr b L _ hra
        obtain ⟨q, hq⟩ : ∃ q, waitsR (L.map (·.1)) = q := ⟨_, rfl⟩
        rw [hq] at hwt
        rw [hz]
        have HWT := Lib.hid hwt
        have HRA := Lib.hid hra
        have HZ := Lib.hid (And.intro hz hq)
        clear hwt hra hz hq hC hin
        go_upto_region 12 with (fail)
        go_cut [58] from 52 to 57 (fun t58 wx => t58 = .bool (decide (z = 0) && decide (q = 4)) ∧ Hid (RA W wx b L (.st g7 [.int .u16 x.id, .int .i64 x.n, .int .i64 x.at_, .slice Ax nx cx] 117 :: F)))
        case first =>
          by_cases hz0 : z = 0
          · subst hz0
            by_cases hq4 : q = 4
            · have tq : ((q : Int) == 4) = true := by rw [hq4]; rfl
              have HQ4 := Lib.hid hq4
              clear hq4
              go_wp2_with fail
              refine HWT.out.mono ?_
              rintro e' w6 ⟨rfl, hb6⟩
              have HR6 := Lib.hid (show RA W w6 b L _ from ⟨HRA.out.1, HRA.out.2.1, by obtain ⟨v6, h6⟩ := HRA.out.2.2; exact ⟨v6, Holds.belowed h6 hb6⟩⟩)
              clear hb6 HWT
              go_wp2_with fail
              go_meet
              exact ⟨by rw [HQ4.out]; rfl, HR6⟩
            · have tq : ((q : Int) == 4) = false := beq_eq_false_iff_ne.2 (fun h => hq4 (Int.ofNat.inj h))
              have HQ4 := Lib.hid hq4
              clear hq4
              go_wp2_with fail
              refine HWT.out.mono ?_
              rintro e' w6 ⟨rfl, hb6⟩
              have HR6 := Lib.hid (show RA W w6 b L _ from ⟨HRA.out.1, HRA.out.2.1, by obtain ⟨v6, h6⟩ := HRA.out.2.2; exact ⟨v6, Holds.belowed h6 hb6⟩⟩)
              clear hb6 HWT
              go_wp2_with fail
              go_meet
              exact ⟨by rw [decide_eq_false HQ4.out, Bool.and_false], HR6⟩
          · have tz : ((z : Int) == 0) = false := beq_eq_false_iff_ne.2 (fun h => hz0 (Int.ofNat.inj h))
            have HZ0 := Lib.hid hz0
            go_wp2_with fail
            go_meet
            exact ⟨by rw [decide_eq_false HZ0.out]; rfl, HRA⟩
        case rest =>
          obtain ⟨rfl, HR7⟩ := hcut
          obtain ⟨dd, hdd⟩ : ∃ dd, (decide (z = 0) && decide (q = 4)) = dd := ⟨_, rfl⟩
          rw [hdd]
          have HDD := Lib.hid hdd
          clear hdd
          go_upto_if 58 with (fail)
          go_cut [58] from 59 to 66 (fun _ wx => ∃ L1, Hid (L1.map (·.1) = (if dd = true then dropR (L.map (·.1)) ((L.map (·.1)).headD x) else L.map (·.1))) ∧ Hid (L1.length ≤ L.length) ∧ Hid (RA W wx b L1 (.st g7 [.int .u16 x.id, .int .i64 x.n, .int .i64 x.at_, .slice Ax nx cx] 117 :: F)))
          case first =>
            cases dd with
            | false =>
              go_wp2_with fail
              go_meet
              exact ⟨L, Lib.hid rfl, Lib.hid (Nat.le_refl _), HR7⟩
            | true =>
              -- drop the first
              obtain ⟨y0, hy0, h0⟩ := first_pos HZ.out.2 HDD.out
              obtain ⟨hl7, hok7, v7, h7⟩ := HR7.out
              obtain ⟨g0, cap0, rfl, _⟩ := h7.up1.row h0
              have hd := rdrop W wc b L _ ⟨hl7, hok7, _, h7⟩ y0.1 y0.2
              have e0 := h7.cell 0 rfl
              have d0 := (h7.up1.rcell (0 * 4 + 0) (cell_lt h0 (by decide))).trans (prow_at L 0 y0 hy0 0 (by decide))
              have d1 := (h7.up1.rcell (0 * 4 + 1) (cell_lt h0 (by decide))).trans (prow_at L 0 y0 hy0 1 (by decide))
              have d2 := (h7.up1.rcell (0 * 4 + 2) (cell_lt h0 (by decide))).trans (prow_at L 0 y0 hy0 2 (by decide))
              have d3 := (h7.up1.rcell (0 * 4 + 3) (cell_lt h0 (by decide))).trans (prow_at L 0 y0 hy0 3 (by decide))
              simp only [pcells, List.getElem?_cons_zero, List.getElem?_cons_succ, Nat.zero_mul, Nat.zero_add] at d0 d1 d2 d3
              have k0 : (0 : Int) < (L.length : Int) := Int.natCast_pos.2 h0
              have HD := Lib.hid hd
              have HY0 := Lib.hid hy0
              clear hd hy0 hl7 hok7 h7
              go_wp2_with fail
              refine HD.out.mono ?_
              rintro e' w8 ⟨rfl, h8⟩
              have H8 := Lib.hid h8
              clear h8 HD e0 d0 d1 d2 d3
              go_wp2_with fail
              go_meet
              exact ⟨keepR y0.1 L, Lib.hid (by simp only [if_true]; rw [keepR_map, head_of_first HY0.out]), Lib.hid (keepR_le _ _), H8⟩
          case rest =>
            obtain ⟨L1, HL1, HLL, HR8⟩ := hcut
            obtain ⟨hl1, hok1, v1, h1⟩ := HR8.out
            obtain ⟨A1, c1, rfl⟩ := h1.up1.slice
            obtain ⟨i0, hi, hz0, hz1, hz2⟩ := info_parts info_part
            have hS1 : wc.drew.cell? ⟨b, 0, none⟩ = some (.slice A1 L1.length c1) ∧ wc.drew.cell? ⟨g7, 0, none⟩ = some (.int .u16 x.id) ∧ wc.drew.cell? ⟨g7, 1, none⟩ = some (.int .i64 x.n) ∧ wc.drew.cell? ⟨g7, 2, none⟩ = some (.int .i64 x.at_) ∧ wc.drew.cell? ⟨g7, 3, none⟩ = some (.slice Ax nx cx) ∧ wc.drew.frozen? ⟨b, 0, none⟩ = false := ⟨h1.cell 0 rfl, h1.up2.cell 0 rfl, h1.up2.cell 1 rfl, h1.up2.cell 2 rfl, h1.up2.cell 3 rfl, h1.frozen 0⟩
            have HH1 := Lib.hid h1
            have HOK1 := Lib.hid (And.intro hl1 hok1)
            clear h1 hl1 hok1 HR8 HR7 HRA HWT H2
            go_upto_region 14 with (fail)
            refine Mix.region 8 (fun w' => w'.cell? ⟨b, 0, none⟩ = some (.slice A1 L1.length c1) ∧ w'.cell? ⟨g7, 0, none⟩ = some (.int .u16 x.id) ∧ w'.cell? ⟨g7, 1, none⟩ = some (.int .i64 x.n) ∧ w'.cell? ⟨g7, 2, none⟩ = some (.int .i64 x.at_) ∧ w'.cell? ⟨g7, 3, none⟩ = some (.slice Ax nx cx) ∧ w'.frozen? ⟨b, 0, none⟩ = false) (by kernel_rfl) ?_
            simp only [List.size_toArray, List.length_cons, List.length_nil]
            refine Mix.at_take (i := 0) (v := ?_) rfl (by kernel_rfl) (by kernel_rfl) (by kernel_rfl) (by kernel_rfl) (by kernel_rfl) (by kernel_rfl) (by kernel_rfl) (fun _ _ _ h => h) (Or.inl ⟨by rfl, ?_⟩) hS1 ?_
            rotate_left
            · intro w hSw
              (try dsimp only at hSw)
              go_simp
              try (with_reducible rfl)
            simp only [Act.put, List.setIfInBounds_toArray, List.set_cons_zero, List.set_cons_succ]
            refine Mix.at_take (i := 1) (v := ?_) rfl (by kernel_rfl) (by kernel_rfl) (by kernel_rfl) (by kernel_rfl) (by kernel_rfl) (by kernel_rfl) (by kernel_rfl) (fun _ _ _ h => h) (Or.inl ⟨by rfl, ?_⟩) hS1 ?_
            rotate_left
            · intro w hSw
              (try dsimp only at hSw)
              go_simp
              try (with_reducible rfl)
            simp only [Act.put, List.setIfInBounds_toArray, List.set_cons_zero, List.set_cons_succ]
            refine Mix.at_take (i := 2) (v := ?_) rfl (by kernel_rfl) (by kernel_rfl) (by kernel_rfl) (by kernel_rfl) (by kernel_rfl) (by kernel_rfl) (by kernel_rfl) (fun _ _ _ h => h) (Or.inl ⟨by rfl, ?_⟩) hS1 ?_
            rotate_left
            · intro w hSw
              (try dsimp only at hSw)
              go_simp
              try (with_reducible rfl)
            simp only [Act.put, List.setIfInBounds_toArray, List.set_cons_zero, List.set_cons_succ]
            refine Mix.at_take (i := 3) (v := ?_) rfl (by kernel_rfl) (by kernel_rfl) (by kernel_rfl) (by kernel_rfl) (by kernel_rfl) (by kernel_rfl) (by kernel_rfl) (fun _ _ _ h => h) (Or.inl ⟨by rfl, ?_⟩) hS1 ?_
            rotate_left
            · intro w hSw
              (try dsimp only at hSw)
              go_simp
              try (with_reducible rfl)
            simp only [Act.put, List.setIfInBounds_toArray, List.set_cons_zero, List.set_cons_succ]
            refine Mix.at_take (i := 4) (v := ?_) rfl (by kernel_rfl) (by kernel_rfl) (by kernel_rfl) (by kernel_rfl) (by kernel_rfl) (by kernel_rfl) (by kernel_rfl) (fun _ _ _ h => h) (Or.inl ⟨by rfl, ?_⟩) hS1 ?_
            rotate_left
            · intro w hSw
              (try dsimp only at hSw)
              go_simp
              try (with_reducible rfl)
            simp only [Act.put, List.setIfInBounds_toArray, List.set_cons_zero, List.set_cons_succ]
            refine Mix.at_take (i := 5) (v := ?_) rfl (by kernel_rfl) (by kernel_rfl) (by kernel_rfl) (by kernel_rfl) (by kernel_rfl) (by kernel_rfl) (by kernel_rfl) (fun _ _ _ h => h) (Or.inl ⟨by rfl, ?_⟩) hS1 ?_
            rotate_left
            · intro w hSw
              (try dsimp only at hSw)
              go_simp
              try (with_reducible rfl)
            simp only [Act.put, List.setIfInBounds_toArray, List.set_cons_zero, List.set_cons_succ]
            refine Mix.at_step (i := 6) rfl (by kernel_rfl) (by kernel_rfl) (by rfl) ?_
            unfold Oper.wp
            go_simp
            have h4 := HH1.out.alloc' (.cells #[.int .u16 x.id, .int .i64 x.n, .int .i64 x.at_, .slice Ax nx cx] 117)
            have hS1 : (wc.alloc (.cells #[.int .u16 x.id, .int .i64 x.n, .int .i64 x.at_, .slice Ax nx cx] 117)).cell? ⟨b, 0, none⟩ = some (.slice A1 L1.length c1) ∧ (wc.alloc (.cells #[.int .u16 x.id, .int .i64 x.n, .int .i64 x.at_, .slice Ax nx cx] 117)).cell? ⟨g7, 0, none⟩ = some (.int .u16 x.id) ∧ (wc.alloc (.cells #[.int .u16 x.id, .int .i64 x.n, .int .i64 x.at_, .slice Ax nx cx] 117)).cell? ⟨g7, 1, none⟩ = some (.int .i64 x.n) ∧ (wc.alloc (.cells #[.int .u16 x.id, .int .i64 x.n, .int .i64 x.at_, .slice Ax nx cx] 117)).cell? ⟨g7, 2, none⟩ = some (.int .i64 x.at_) ∧ (wc.alloc (.cells #[.int .u16 x.id, .int .i64 x.n, .int .i64 x.at_, .slice Ax nx cx] 117)).cell? ⟨g7, 3, none⟩ = some (.slice Ax nx cx) ∧ (wc.alloc (.cells #[.int .u16 x.id, .int .i64 x.n, .int .i64 x.at_, .slice Ax nx cx] 117)).frozen? ⟨b, 0, none⟩ = false := ⟨h4.cell 0 rfl, h4.up2.cell 0 rfl, h4.up2.cell 1 rfl, h4.up2.cell 2 rfl, h4.up2.cell 3 rfl, h4.frozen 0⟩
            refine ⟨hS1, ?_⟩
            have H4 := Lib.hid (h4.up1.drewN 1)
            clear h4
            refine Mix.at_step (i := 7) rfl (by kernel_rfl) (by kernel_rfl) (by rfl) ?_
            refine wp_append_one (.tmp 71) (.tmp 73) 43 rfl 117 i0 _ 4 48 Try.underlying43 hi hz0 hz1 hz2 rfl (by decide) rfl H4.out (pcells (x, .slice Ax nx cx)) rfl rfl (fun j u hu => cell_one_at rfl (by simpa [pcells] using hu)) (pcells_one HXO.out.2) (few' HOK1.out.1 (by decide)) (by decide) ?_
            intro g4 c4 w4 h5
            have hS1 : w4.cell? ⟨b, 0, none⟩ = some (.slice A1 L1.length c1) ∧ w4.cell? ⟨g7, 0, none⟩ = some (.int .u16 x.id) ∧ w4.cell? ⟨g7, 1, none⟩ = some (.int .i64 x.n) ∧ w4.cell? ⟨g7, 2, none⟩ = some (.int .i64 x.at_) ∧ w4.cell? ⟨g7, 3, none⟩ = some (.slice Ax nx cx) ∧ w4.frozen? ⟨b, 0, none⟩ = false := ⟨h5.up1.cell 0 rfl, h5.up2.cell 0 rfl, h5.up2.cell 1 rfl, h5.up2.cell 2 rfl, h5.up2.cell 3 rfl, h5.up1.frozen 0⟩
            refine ⟨hS1, ?_⟩
            simp only [Act.put, List.setIfInBounds_toArray, List.set_cons_zero, List.set_cons_succ]
            obtain ⟨e0, e1, e2, e3, e4, e5⟩ := hS1
            have h6 := h5.up1.set 0 (.slice (some ⟨g4, 0, none⟩) (L1.length + 1 : Nat) c4)
            simp only [List.set] at h6
            have H6 := Lib.hid h6
            clear h5 h6 H4
            refine Mix.at_tail _ rfl rfl (by kernel_rfl) ?_
            simp only [List.drop_succ_cons, List.drop_zero]
            obtain ⟨m, hm, hm2, hm14⟩ := n_nat HXO.out.2
            have hgo := refA_go HX.out.1 HXO.out.1 HNO.out HZ.out.1 HZ.out.2 HDD.out HL1.out
            obtain ⟨y1, y2⟩ := w_facts (z := z) (i := L.length) (HZ.out.1 ▸ cntTo_le L x L.length) (Nat.le_trans (Nat.le_succ _) HL.out)
            have h7 := H6.out
            have hR2 : RA W (w4.setCell ⟨b, 0, none⟩ (.slice (some ⟨g4, 0, none⟩) (L1.length + 1 : Nat) c4)) b (L1 ++ [(x, .slice Ax nx cx)]) (.st g7 [.int .u16 x.id, .int .i64 x.n, .int .i64 x.at_, .slice Ax nx cx] 117 :: F) := by
              refine ⟨?_, snoc_ok HOK1.out.2 HXO.out.2, .slice (some ⟨g4, 0, none⟩) (L1.length + 1 : Nat) c4, ?_⟩
              · rw [List.length_append]; exact Nat.le_trans (Nat.succ_le_succ HLL.out) HL.out
              · rw [prow_snoc, List.length_append]; exact h7
            have hl2 : (L1 ++ [(x, Value.slice Ax nx cx)]).length ≤ 200 := by rw [List.length_append]; exact Nat.le_trans (Nat.succ_le_succ (Nat.le_trans HLL.out HL2.out)) (by decide)
            have hmap : (L1 ++ [(x, Value.slice Ax nx cx)]).map (·.1) = L1.map (·.1) ++ [x] := by rw [List.map_append]; rfl
            rw [← hmap] at hgo
            have c7 := h7.up2.cell 1 rfl
            rw [hm] at c7 hgo
            generalize hL2 : L1 ++ [(x, Value.slice Ax nx cx)] = L2 at *
            have hpos : 0 < L2.length := by rw [← hL2, List.length_append]; exact Nat.succ_pos _
            have HGO := Lib.hid (And.intro hgo (And.intro hm (And.intro hm2 hm14)))
            have HP2 := Lib.hid (And.intro hl2 hpos)
            have HR2 := Lib.hid hR2
            clear hgo hm hm2 hm14 h7 H6 hR2 hl2 hmap hL2 hpos HH1 HL1 HLL HOK1
            go_upto_region 15 with (fail)
            clear e0 e1 e2 e3 e4 e5
            generalize w4.setCell ⟨b, 0, none⟩ (.slice (some ⟨g4, 0, none⟩) (L1.length + 1 : Nat) c4) = w6 at *
            by_cases hlt : z + 1 < m
            · have t1 : ((z + 1 : Nat) : Int) < (m : Int) := Int.ofNat_lt.2 hlt
              have t2 : decide (((z + 1 : Nat) : Int) < (m : Int)) = true := decide_eq_true t1
              have t3 : decide (z + 1 < m) = true := decide_eq_true hlt
              have HLT := Lib.hid hlt
              go_wp2_with fail
              have hra := HGO.out.1
              rw [if_pos (zn_cases.2 HLT.out)] at hra
              obtain ⟨v9, h9⟩ := HR2.out.2.2
              have h10 := h9.up2.tail
              refine bodyPost_ret (results_tmp3 rfl _ _ _) rfl ⟨L2, none, 0, by rw [hra], by rw [hra]; rfl, by rw [hra]; exact .inl ⟨rfl, rfl, rfl⟩, HR2.out.1, HR2.out.2.1, v9, ?_⟩
              exact h10
            · have t1 : ¬ ((z + 1 : Nat) : Int) < (m : Int) := fun h => hlt (Int.ofNat_lt.1 h)
              have t2 : decide (((z + 1 : Nat) : Int) < (m : Int)) = false := decide_eq_false t1
              have t3 : decide (z + 1 < m) = false := decide_eq_false hlt
              have HLT := Lib.hid hlt
              go_upto_region 17 with (fail)
              obtain ⟨i8, hi8, hy0, hy1, hy2⟩ := info_parts info_u8
              have hra := HGO.out.1
              rw [if_neg (fun h => HLT.out (zn_cases.1 h))] at hra
              have HRA := Lib.hid hra
              have hj0 : RA W w6 b L2 (.rw (.slice none 0 0) 5 1 (outI L2 x 0 0).length (nums .u8 (outI L2 x 0 0)) :: .st g7 [.int .u16 x.id, .int .i64 x.n, .int .i64 x.at_, .slice Ax nx cx] 117 :: F) := by
                obtain ⟨v9, h9⟩ := HR2.out.2.2
                refine ⟨HR2.out.1, HR2.out.2.1, v9, ?_⟩
                have e : outI L2 x 0 0 = [] := by rw [outI_zero]; rfl
                rw [e]
                exact (h9.nilrow 5 1).perm (List.Perm.trans (List.Perm.swap _ _ _) (List.Perm.cons _ (List.Perm.swap _ _ _)))
              have HJ0 := Lib.hid hj0
              clear hra hj0 t1 t2 t3 hlt c7 k9 y1 y2
              go_wp2_with fail
              go_loopw [11, 12] (fun ov jv wr => ∃ j : Nat, Hid (j ≤ m) ∧ jv = .int .i64 j ∧ Hid (RA W wr b L2 (.rw ov 5 1 (outI L2 x j 0).length (nums .u8 (outI L2 x j 0)) :: .st g7 [.int .u16 x.id, .int .i64 x.n, .int .i64 x.at_, .slice Ax nx cx] 117 :: F))) (fun _ jv _ => m - (intOf jv).toNat)
              case atStart => exact ⟨0, Lib.hid (Nat.zero_le _), rfl, HJ0⟩
              case round =>
                obtain ⟨j, HJ, rfl, HC⟩ := hrel
                clear HJ0 HR2
                obtain ⟨va, ha⟩ := HC.out.2.2
                have c7 := ha.up3.cell 1 rfl
                rw [HGO.out.2.1] at c7
                by_cases hjm : j < m
                · obtain ⟨k0, k1, k2, k3⟩ := fi_facts hjm (Nat.le_trans HGO.out.2.2.2 (by decide))
                  have HJM := Lib.hid hjm
                  clear ha hjm
                  go_wp2_with fail
                  go_loopw [11, 13] (fun ov iv wr => ∃ i : Nat, Hid (i ≤ L2.length) ∧ iv = .int .i64 i ∧ Hid (RA W wr b L2 (.rw ov 5 1 (outI L2 x j i).length (nums .u8 (outI L2 x j i)) :: .st g7 [.int .u16 x.id, .int .i64 x.n, .int .i64 x.at_, .slice Ax nx cx] 117 :: F))) (fun _ iv _ => L2.length - (intOf iv).toNat)
                  case atStart => exact ⟨0, Lib.hid (Nat.zero_le _), rfl, HC⟩
                  case round =>
                    obtain ⟨i, HI, rfl, HD⟩ := hrel
                    clear HC c7
                    obtain ⟨vb, hb⟩ := HD.out.2.2
                    obtain ⟨gb, capb, rfl, _⟩ := hb.up1.row HP2.out.2
                    have e0 := hb.cell 0 rfl
                    by_cases hin : i < L2.length
                    · obtain ⟨y, hy⟩ : ∃ y, L2[i]? = some y := ⟨_, List.getElem?_eq_getElem hin⟩
                      obtain ⟨j0, j1, j2, j3⟩ := fi_facts hin (Nat.le_trans HP2.out.1 (by decide))
                      obtain ⟨bb, hbb⟩ : ∃ bb, mineB y.1 x = bb := ⟨_, rfl⟩
                      obtain ⟨tt, htt⟩ : ∃ tt, (y.1.at_ == (j : Int)) = tt := ⟨_, rfl⟩
                      have HTT := Lib.hid htt
                      have HQ : Hid _ := Lib.hid (mine_quiet ‹World› y (x, .slice Ax nx cx) hbb)
                      have d0 := (hb.up1.rcell (i * 4 + 0) (cell_lt hin (by decide))).trans (prow_at L2 i y hy 0 (by decide))
                      have d1 := (hb.up1.rcell (i * 4 + 1) (cell_lt hin (by decide))).trans (prow_at L2 i y hy 1 (by decide))
                      have d2 := (hb.up1.rcell (i * 4 + 2) (cell_lt hin (by decide))).trans (prow_at L2 i y hy 2 (by decide))
                      have d3 := (hb.up1.rcell (i * 4 + 3) (cell_lt hin (by decide))).trans (prow_at L2 i y hy 3 (by decide))
                      have c0 := hb.up3.cell 0 rfl
                      have c1 := hb.up3.cell 1 rfl
                      have c2 := hb.up3.cell 2 rfl
                      have c3 := hb.up3.cell 3 rfl
                      simp only [pcells, List.getElem?_cons_zero, List.getElem?_cons_succ, Nat.add_zero] at d0 d1 d2 d3
                      have HBB := Lib.hid hbb
                      have HY := Lib.hid hy
                      have HIN := Lib.hid hin
                      have E0 := cell_regrown e0
                      have D0 := cell_regrown d0
                      have D1 := cell_regrown d1
                      have D2 := cell_regrown d2
                      have D3 := cell_regrown d3
                      have C0 := cell_regrown c0
                      have C1 := cell_regrown c1
                      have C2 := cell_regrown c2
                      have C3 := cell_regrown c3
                      clear hb hy hbb hin d0 d1 d2 d3 c0 c1 c2 c3
                      cases bb with
                      | false =>
                        go_upto_region 24 with (fail)
                        refine wp_region_quiet_below (by kernel_rfl) (by kernel_rfl) ?_
                        repeat (go_big_quiet_step ((go_at_call 51; with_reducible exact HQ.out _ _)))
                        refine wpQuiet_nil ?_
                        intro wz hw'
                        obtain ⟨⟨dq, osq⟩, hw''⟩ := hw'
                        subst hw''
                        have hR3 := HD.out.belowed (below_regrown _ dq osq)
                        have HR3 := Lib.hid hR3
                        clear E0 D0 D1 D2 D3 C0 C1 C2 C3 HQ hR3 HD e0
                        generalize grow (redrawn wr dq) osq = w7 at *
                        clear htt
                        go_wp2_with fail
                        exact ⟨⟨i + 1, Lib.hid HIN.out, by go_num, Lib.hid (by rw [outI_skip HY.out (by rw [HBB.out]; rfl)]; exact HR3.out)⟩, fi_down HIN.out⟩
                      | true =>
                        go_upto_region 24 with (fail)
                        refine wp_region_quiet_below (by kernel_rfl) (by kernel_rfl) ?_
                        repeat (go_big_quiet_step ((go_at_call 51; with_reducible exact HQ.out _ _)))
                        refine wpQuiet_nil ?_
                        intro wz hw'
                        obtain ⟨⟨dq, osq⟩, hw''⟩ := hw'
                        subst hw''
                        have hR3 := HD.out.belowed (below_regrown _ dq osq)
                        have HR3 := Lib.hid hR3
                        clear E0 D0 D1 D2 D3 C0 C1 C2 C3 HQ hR3 HD e0
                        generalize grow (redrawn wr dq) osq = w7 at *
                        clear htt
                        cases tt with
                        | false =>
                          go_wp2_with fail
                          exact ⟨⟨i + 1, Lib.hid HIN.out, by go_num, Lib.hid (by rw [outI_skip HY.out (by rw [HBB.out, HTT.out]; rfl)]; exact HR3.out)⟩, fi_down HIN.out⟩
                        | true =>
                          obtain ⟨vd, hd⟩ := HR3.out.2.2
                          obtain ⟨gd, capd, rfl, _⟩ := hd.up1.row HP2.out.2
                          have e0 := hd.cell 0 rfl
                          have d3 := (hd.up1.rcell (i * 4 + 3) (cell_lt HIN.out (by decide))).trans (prow_at L2 i y HY.out 3 (by decide))
                          simp only [pcells, List.getElem?_cons_zero, List.getElem?_cons_succ] at d3
                          have hrdy := (HR3.out.2.1 y (List.mem_of_getElem? HY.out)).rd.below hd.below
                          have hfew := outI_len HR3.out.2.1 HP2.out.1 x (Nat.lt_of_lt_of_le HJM.out HGO.out.2.2.2) i (HR3.out.2.1 y (List.mem_of_getElem? HY.out)).len
                          have HFE := Lib.hid hfew
                          have hov := Holds.sel [_, _, _] hd [2, 0, 1] rfl
                          simp only [pick, List.getElem?_cons_succ, List.getElem?_cons_zero, List.append_eq, List.cons_append, List.nil_append] at hov
                          have HOV := Lib.hid hov
                          have HTK := Lib.hid (outI_take (j := j) HY.out (by rw [HBB.out, HTT.out]; rfl))
                          clear hd hfew hov
                          obtain ⟨yp, yv⟩ := y
                          dsimp only at *
                          rcases hrdy with ⟨rfl, hb0, _⟩ | ⟨ad, cc, rfl, _, _, hcl⟩
                          · have hbn := List.eq_nil_of_length_eq_zero hb0
                            have HBN := Lib.hid hbn
                            clear hb0 hbn
                            go_wp2_with (at_builtin; refine wpList_append_own_none rfl _ _ _ rfl W.heap.size 5 i8 1 Try.underlying25 hi8 _ _ _ rfl HOV.out.own rfl ?_)
                            exact ⟨⟨i + 1, Lib.hid HIN.out, by go_num, Lib.hid (by rw [HTK.out, HBN.out, List.append_nil]; exact HR3.out)⟩, fi_down HIN.out⟩
                          · have HCL := Lib.hid hcl
                            clear hcl
                            go_wp2_with (at_builtin; refine wpList_append_many rfl _ _ _ rfl 5 i8 _ 1 1 Try.underlying25 hi8 hy0 hy1 hy2 rfl (by decide) rfl HOV.out (nums .u8 yp.b) rfl (nums_len1 _) HCL.out (nums_one _ _) HFE.out (by decide) ?_)
                            intro v' w' h'
                            have hz := Holds.sel [_, _, _] h' [1, 2, 0] rfl
                            simp only [pick, List.getElem?_cons_succ, List.getElem?_cons_zero, List.append_eq, List.cons_append, List.nil_append] at hz
                            have hR9 : RA W w' b L2 (.rw v' 5 1 (outI L2 x j (i + 1)).length (nums .u8 (outI L2 x j (i + 1))) :: .st g7 [.int .u16 x.id, .int .i64 x.n, .int .i64 x.at_, .slice Ax nx cx] 117 :: F) := by
                              refine ⟨HR3.out.1, HR3.out.2.1, .slice (some ⟨gd, 0, none⟩) L2.length capd, ?_⟩
                              · rw [HTK.out, nums_app, List.length_append]; exact hz
                            have HR9 := Lib.hid hR9
                            clear hz h' hR9 e0 d3
                            go_wp2_with fail
                            exact ⟨⟨i + 1, Lib.hid HIN.out, by go_num, HR9⟩, fi_down HIN.out⟩
                    · obtain rfl : i = L2.length := Nat.le_antisymm HI.out (Nat.le_of_not_lt hin)
                      have k9 : ¬ (L2.length : Int) < (L2.length : Int) := Int.lt_irrefl _
                      have hnx : outI L2 x (j + 1) 0 = outI L2 x j L2.length := by rw [outI_zero, outI_all]
                      have HNX := Lib.hid hnx
                      clear hb hin hnx
                      go_wp2_with fail
                      exact ⟨⟨j + 1, Lib.hid HJM.out, by go_num, Lib.hid (by rw [HNX.out]; exact HD.out)⟩, fi_down HJM.out⟩
                · obtain rfl : j = m := Nat.le_antisymm HJ.out (Nat.le_of_not_lt hjm)
                  have k9 : ¬ (j : Int) < (j : Int) := Int.lt_irrefl _
                  have hdr := rdrop W ‹World› b L2 _ HC.out x (.slice Ax nx cx)
                  obtain ⟨Ao, co, rfl⟩ := ha.up2.slice
                  have HA := Lib.hid ha
                  have HDR := Lib.hid hdr
                  clear hjm ha hdr
                  go_upto_region 26 with (fail)
                  clear c7
                  have c0 := HA.out.up3.cell 0 rfl
                  have c1 := HA.out.up3.cell 1 rfl
                  have c2 := HA.out.up3.cell 2 rfl
                  have c3 := HA.out.up3.cell 3 rfl
                  clear HA
                  go_wp2_with fail
                  refine HDR.out.mono ?_
                  rintro e' w8 ⟨rfl, h8⟩
                  obtain ⟨hl8, hok8, v8, h8⟩ := h8
                  have hrd8 := h8.up2.rd
                  have h9 := h8.up2.tail.up2.tail
                  have ho : outI L2 x j 0 = outR (L2.map (·.1)) x := by rw [outI_zero, ← HGO.out.2.2.1]; rfl
                  have H9 := Lib.hid (And.intro hl8 (And.intro hok8 (And.intro hrd8 (And.intro h9 ho))))
                  clear c0 c1 c2 c3 HDR hl8 hok8 h8 hrd8 h9 ho
                  go_wp2_with fail
                  obtain ⟨hl8, hok8, hrd8, h9, ho⟩ := H9.out
                  have hra := HRA.out
                  rw [ho] at hrd8
                  refine bodyPost_ret (results_tmp3 rfl _ _ _) rfl ⟨keepR x L2, Ao, co, ?_, ?_, ?_, hl8, hok8, v8, h9⟩
                  · rw [hra, keepR_map]
                  · rw [hra, ho]; rfl
                  · rw [hra]; exact hrd8

end Go.Proofs.Ytpnnalkihcemhaa.Frag
