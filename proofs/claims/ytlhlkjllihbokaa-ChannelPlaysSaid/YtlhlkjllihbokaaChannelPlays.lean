/- The law ChannelPlays: whatever is sent and taken, whatever headers come, is answered as the chapter says. For all scripts; no condition. Here: the walk. -/
import Derived.Test.YtlhlkjllihbokaaChPlC
set_option linter.unusedVariables false
set_option linter.unusedSimpArgs false
namespace Go.Proofs.Ytlhlkjllihbokaa.R14
open Go.Sort Go.RowKit Go.Deep Go.WideShapes Go.ChangeShapes Go.Proofs.Ytlhlkjllihbokaa.Mem Go.Proofs.Ytlhlkjllihbokaa.Open Go.Proofs.Ytlhlkjllihbokaa.Num Go.Proofs.Ytlhlkjllihbokaa.Step Go.Proofs.Ytlhlkjllihbokaa.Ser Go.Proofs.Ytlhlkjllihbokaa.Chan Go.Proofs.YtlhlkjllihbokaaW.PrintWords

theorem kinds2 {kd : Int} (h1 : ¬ kd = 1) (h2 : ¬ kd = 2) : (kd == 1) = false ∧ (kd == 2) = false := ⟨beq_eq_false_iff_ne.2 h1, beq_eq_false_iff_ne.2 h2⟩
theorem down_one {j n : Nat} (h : j < n) : n - (intOf (Value.int .i64 ((j : Int) + 1))).toNat < n - (intOf (Value.int .i64 (j : Int))).toNat := by simp [intOf]; omega

set_option maxRecDepth 100000 in
set_option maxHeartbeats 4000000 in
theorem channelPlays_core (w : World) (v : Value) (ops : List COp) (hv : RdL w v 5 (ops.map COp.cells)) (hwf : ∀ o ∈ ops, HdWf o.h) :
    Calls Try.prog 10 #[v] w fun e' w' => e' = .returned (.bool true) ∧ Below w.heap.size w w' := by
  obtain ⟨A, c, rfl, hc, hm, hr⟩ := cops_at hv
  have HR := Lib.hid hr
  have HWF := Lib.hid hwf
  clear hr hm hc hv hwf
  by_cases hbig : 300 < ops.length
  · have tb : decide ((300 : Int) < (ops.length : Int)) = true := by simp; omega
    clear hbig
    go_enter Try.func10, Try.ntmps10
    go_wp2_with fail
    refine (awake14 _).mono ?_
    rintro e' w1 ⟨rfl, h1⟩
    go_wp2_with fail
    refine (awake14 _).mono ?_
    rintro e' w2 ⟨rfl, h2⟩
    go_wp2_with fail
    go_ret
    exact ⟨rfl, h1.trans (h2.mono h1.size)⟩
  · have tb : decide ((300 : Int) < (ops.length : Int)) = false := by simp; omega
    have hl : ops.length ≤ 1000 := by omega
    have hl3 : ops.length ≤ 300 := by omega
    have HL := Lib.hid hl
    have HL3 := Lib.hid hl3
    clear hbig hl hl3
    go_enter Try.func10, Try.ntmps10
    go_wp2_with fail
    refine (awake14 _).mono ?_
    rintro e' w1 ⟨rfl, h1⟩
    have HS := Lib.hid (ps_start w w1 h1)
    clear h1
    go_wp2_with fail
    go_loopw [5] (fun i wr => ∃ k : Nat, k ≤ ops.length ∧ i = .int .i64 k ∧ Hid (PS w w1.heap.size (w1.heap.size + 1) k wr)) (fun i _ => ops.length - (intOf i).toNat)
    case atStart => exact ⟨0, Nat.zero_le _, rfl, HS⟩
    case round =>
      obtain ⟨k, hk, rfl, HC⟩ := hrel
      clear HS
      by_cases hkn : k < ops.length
      · obtain ⟨k0, k1, k2, k3⟩ := k_facts hkn HL.out
        have hk4 : k ≤ 700 := Nat.le_trans (Nat.le_of_lt hkn) (Nat.le_trans HL3.out (by decide))
        have HK8 := Lib.hid (Nat.le_trans hk4 (by decide : 700 ≤ 800))
        have HK9 := Lib.hid (Nat.le_trans (Nat.succ_le_succ hk4) (by decide : 701 ≤ 800))
        obtain ⟨bs, off, rfl, hlt, d0, d1, d2, d3, d4⟩ := HR.out k ops[k] (List.getElem?_eq_getElem hkn)
        have hbl := HC.out.below
        have hwf := HWF.out ops[k] (List.getElem_mem hkn)
        obtain ⟨⟨kd, hd⟩, ho⟩ : ∃ o, ops[k] = o := ⟨_, rfl⟩
        rw [ho] at d0 d1 d2 d3 d4 hwf
        dsimp only at d0 d1 d2 d3 d4 hwf
        have c0 : wr.cell? ⟨bs, off + k * 5, none⟩ = some (.int .i64 kd) := by rw [hbl.cell (p := ⟨bs, off + k * 5, none⟩) hlt]; exact d0
        have HKN := Lib.hid hkn
        have HLT := Lib.hid hlt
        have HD := Lib.hid (And.intro d1 (And.intro d2 (And.intro d3 d4)))
        have HWD := Lib.hid hwf
        clear ho hbl d0 d1 d2 d3 d4 hk hk4 hkn hlt hwf
        go_upto_block 2 with (fail)
        go_cut [5] from 86 (fun t5 wx => t5 = .int .i64 k ∧ PS w w1.heap.size (w1.heap.size + 1) (k + 1) wx)
        case first =>
          by_cases q1 : kd = 1
          · subst q1
            go_wp2_with fail
            refine (ps_send1 HC.out HK8.out).mono ?_
            rintro e' w4 ⟨N, x, rfl, h4⟩
            have H4 := Lib.hid h4
            clear h4 HC c0
            go_wp2_with fail
            refine (ps_send2 H4.out HK8.out).mono ?_
            rintro e' w5 ⟨rfl, h5⟩
            have H5 := Lib.hid h5
            clear h5 H4
            go_wp2_with fail
            go_meet
            exact ⟨rfl, H5.out⟩
          · by_cases q2 : kd = 2
            · subst q2
              obtain ⟨d1, d2, d3, d4⟩ := HD.out
              have hbl := HC.out.below
              obtain ⟨n, any, a, m⟩ := hd
              try dsimp only at d1 d2 d3 d4
              have c1 : wr.cell? ⟨bs, off + k * 5 + 1, none⟩ = some (.int .u16 n) := by rw [hbl.cell (p := ⟨bs, off + k * 5 + 1, none⟩) HLT.out]; exact d1
              have c2 : wr.cell? ⟨bs, off + k * 5 + 1 + 1, none⟩ = some (.bool any) := by rw [hbl.cell (p := ⟨bs, off + k * 5 + 1 + 1, none⟩) HLT.out]; exact d2
              have c3 : wr.cell? ⟨bs, off + k * 5 + 1 + 2, none⟩ = some (.int .u16 a) := by rw [hbl.cell (p := ⟨bs, off + k * 5 + 1 + 2, none⟩) HLT.out]; exact d3
              have c4 : wr.cell? ⟨bs, off + k * 5 + 1 + 3, none⟩ = some (.int .u32 m) := by rw [hbl.cell (p := ⟨bs, off + k * 5 + 1 + 3, none⟩) HLT.out]; exact d4
              clear hbl d1 d2 d3 d4
              go_wp2_with fail
              refine (ps_take1 ⟨n, any, a, m⟩ HWD.out HC.out).mono ?_
              rintro e' w4 ⟨vg, ec, l, rfl, h4⟩
              have hbl : Below w.heap.size w w4 := by
                obtain ⟨x, op, L, v, v2, F, _, _, _, _, h | h⟩ := h4
                · exact h.2.2.2.2.below
                · exact h.2.2.2.below
              obtain ⟨d1, d2, d3, d4⟩ := HD.out
              try dsimp only at d1 d2 d3 d4
              have c1 : w4.cell? ⟨bs, off + k * 5 + 1, none⟩ = some (.int .u16 n) := by rw [hbl.cell (p := ⟨bs, off + k * 5 + 1, none⟩) HLT.out]; exact d1
              have c2 : w4.cell? ⟨bs, off + k * 5 + 1 + 1, none⟩ = some (.bool any) := by rw [hbl.cell (p := ⟨bs, off + k * 5 + 1 + 1, none⟩) HLT.out]; exact d2
              have c3 : w4.cell? ⟨bs, off + k * 5 + 1 + 2, none⟩ = some (.int .u16 a) := by rw [hbl.cell (p := ⟨bs, off + k * 5 + 1 + 2, none⟩) HLT.out]; exact d3
              have c4 : w4.cell? ⟨bs, off + k * 5 + 1 + 3, none⟩ = some (.int .u32 m) := by rw [hbl.cell (p := ⟨bs, off + k * 5 + 1 + 3, none⟩) HLT.out]; exact d4
              have H4 := Lib.hid h4
              clear h4 HC c0 hbl d1 d2 d3 d4
              go_wp2_with fail
              refine (ps_take2 HWD.out HK8.out H4.out).mono ?_
              rintro e' w5 ⟨vg2, rfl, hr1, hr2, hl5, h5⟩
              have H5 := Lib.hid h5
              have HR5 := Lib.hid (And.intro hr1 (And.intro hr2 hl5))
              have tq : (ec != ec) = false := by simp
              clear h5 H4 c1 c2 c3 c4 hr1 hr2 hl5
              go_wp2_with fail
              refine (same16 _ _ _ l HR5.out.2.2 HR5.out.1 HR5.out.2.1).mono ?_
              rintro e' w6 ⟨rfl, hd6⟩
              obtain ⟨x6, l6, h6⟩ := H5.out.open
              have H6 := Lib.hid (h6.belowed hd6.below).shut
              clear h6 hd6 H5 HR5
              go_wp2_with fail
              go_meet
              exact ⟨rfl, H6.out⟩
            · obtain ⟨r1, r2⟩ := kinds2 q1 q2
              clear q1 q2
              go_wp2_with fail
              go_meet
              exact ⟨rfl, HC.out.next⟩
        case rest =>
          obtain ⟨rfl, hc⟩ := hcut
          obtain ⟨⟨any, last, mask⟩, l, hO⟩ := hc.open
          have HO := Lib.hid hO
          have hS1 := hO.cells
          dsimp only at hS1
          clear hc HC c0 hO
          go_upto_region 16 with (fail)
          go_cut [85] from 86 (fun t85 wx => t85 = .bool false ∧ PS w w1.heap.size (w1.heap.size + 1) (k + 1) wx)
          case first =>
            have hS1 : wc.drew.cell? ⟨w1.heap.size + 1, 1, none⟩ = some (.bool any) ∧ wc.drew.cell? ⟨w1.heap.size + 1, 2, none⟩ = some (.int .u16 last) ∧ wc.drew.cell? ⟨w1.heap.size + 1, 3, none⟩ = some (.int .u32 mask) := hS1
            refine Mix.region 14 (fun w' => w'.cell? ⟨w1.heap.size + 1, 1, none⟩ = some (.bool any) ∧ w'.cell? ⟨w1.heap.size + 1, 2, none⟩ = some (.int .u16 last) ∧ w'.cell? ⟨w1.heap.size + 1, 3, none⟩ = some (.int .u32 mask)) (by kernel_rfl) ?_
            simp only [List.size_toArray, List.length_cons, List.length_nil]
            have H0 := Lib.hid (HO.out.belowed (w' := wc.drew) (Below.drew (Below.refl _ _)))
            refine Mix.at_take (i := 0) (v := ?_) rfl (by kernel_rfl) (by kernel_rfl) (by kernel_rfl) (by kernel_rfl) (by kernel_rfl) (by kernel_rfl) (by kernel_rfl) (fun _ _ _ h => h) (Or.inl ⟨by rfl, ?_⟩) hS1 ?_
            rotate_left
            · intro w hSw
              (try dsimp only at hSw)
              go_simp
              try (with_reducible rfl)
            simp only [Act.put, List.setIfInBounds_toArray, List.set_cons_zero, List.set_cons_succ]
            refine Mix.at_take (i := 2) (v := ?_) rfl (by kernel_rfl) (by kernel_rfl) (by kernel_rfl) (by kernel_rfl) (by kernel_rfl) (by kernel_rfl) (by kernel_rfl) (fun _ _ _ h => h) (Or.inl ⟨by rfl, ?_⟩) hS1 ?_
            rotate_left
            · intro w hSw
              (try dsimp only at hSw)
              go_simp
              try (with_reducible rfl)
            simp only [Act.put, List.setIfInBounds_toArray, List.set_cons_zero, List.set_cons_succ]
            refine Mix.at_step (i := 1) rfl (by kernel_rfl) (by kernel_rfl) (by rfl) ?_
            unfold Oper.wp
            go_simp
            refine (po_open1 H0.out).mono ?_
            rintro e' w4 ⟨v4, rfl, h4⟩
            have hS1 := h4.cells
            dsimp only at hS1
            have H4 := Lib.hid h4
            clear h4 H0
            refine ⟨hS1, ?_⟩
            refine Mix.at_step (i := 3) rfl (by kernel_rfl) (by kernel_rfl) (by rfl) ?_
            unfold Oper.wp
            go_simp
            refine (po_open2 H4.out HK9.out).mono ?_
            rintro e' w5 ⟨v5, rfl, h5⟩
            have hS1 := h5.cells
            dsimp only at hS1
            have H5 := Lib.hid h5
            clear h5 H4
            refine ⟨hS1, ?_⟩
            have HS5 := Lib.hid (same16 w5 v4 v5 l (H5.out.rd v4 (by simp)).2 (H5.out.rd v4 (by simp)).1 (H5.out.rd v5 (by simp)).1)
            refine Mix.at_step (i := 4) rfl (by kernel_rfl) (by kernel_rfl) (by rfl) ?_
            unfold Oper.wp
            go_simp
            refine HS5.out.mono ?_
            rintro e' w6 ⟨rfl, hd6⟩
            have h6 := H5.out.belowed hd6.below
            have hS1 := h6.cells
            dsimp only at hS1
            have H6 := Lib.hid h6
            clear h6 H5 HS5 hd6
            refine ⟨hS1, ?_⟩
            refine Mix.at_take (i := 5) (v := ?_) rfl (by kernel_rfl) (by kernel_rfl) (by kernel_rfl) (by kernel_rfl) (by kernel_rfl) (by kernel_rfl) (by kernel_rfl) (fun _ _ _ h => h) (Or.inl ⟨by rfl, ?_⟩) hS1 ?_
            rotate_left
            · intro w hSw
              (try dsimp only at hSw)
              go_simp
              try (with_reducible rfl)
            simp only [Act.put, List.setIfInBounds_toArray, List.set_cons_zero, List.set_cons_succ]
            refine Mix.at_take (i := 6) (v := ?_) rfl (by kernel_rfl) (by kernel_rfl) (by kernel_rfl) (by kernel_rfl) (by kernel_rfl) (by kernel_rfl) (by kernel_rfl) (fun _ _ _ h => h) (Or.inl ⟨by rfl, ?_⟩) hS1 ?_
            rotate_left
            · intro w hSw
              (try dsimp only at hSw)
              go_simp
              try (with_reducible rfl)
            simp only [Act.put, List.setIfInBounds_toArray, List.set_cons_zero, List.set_cons_succ]
            refine Mix.at_take (i := 7) (v := ?_) rfl (by kernel_rfl) (by kernel_rfl) (by kernel_rfl) (by kernel_rfl) (by kernel_rfl) (by kernel_rfl) (by kernel_rfl) (fun _ _ _ h => h) (Or.inl ⟨by rfl, ?_⟩) hS1 ?_
            rotate_left
            · intro w hSw
              (try dsimp only at hSw)
              go_simp
              try (with_reducible rfl)
            simp only [Act.put, List.setIfInBounds_toArray, List.set_cons_zero, List.set_cons_succ]
            refine Mix.at_take (i := 9) (v := ?_) rfl (by kernel_rfl) (by kernel_rfl) (by kernel_rfl) (by kernel_rfl) (by kernel_rfl) (by kernel_rfl) (by kernel_rfl) (fun _ _ _ h => h) (Or.inl ⟨by rfl, ?_⟩) hS1 ?_
            rotate_left
            · intro w hSw
              (try dsimp only at hSw)
              go_simp
              try (with_reducible rfl)
            simp only [Act.put, List.setIfInBounds_toArray, List.set_cons_zero, List.set_cons_succ]
            refine Mix.at_take (i := 10) (v := ?_) rfl (by kernel_rfl) (by kernel_rfl) (by kernel_rfl) (by kernel_rfl) (by kernel_rfl) (by kernel_rfl) (by kernel_rfl) (fun _ _ _ h => h) (Or.inl ⟨by rfl, ?_⟩) hS1 ?_
            rotate_left
            · intro w hSw
              (try dsimp only at hSw)
              go_simp
              try (with_reducible rfl)
            simp only [Act.put, List.setIfInBounds_toArray, List.set_cons_zero, List.set_cons_succ]
            refine Mix.at_take (i := 11) (v := ?_) rfl (by kernel_rfl) (by kernel_rfl) (by kernel_rfl) (by kernel_rfl) (by kernel_rfl) (by kernel_rfl) (by kernel_rfl) (fun _ _ _ h => h) (Or.inl ⟨by rfl, ?_⟩) hS1 ?_
            rotate_left
            · intro w hSw
              (try dsimp only at hSw)
              go_simp
              try (with_reducible rfl)
            simp only [Act.put, List.setIfInBounds_toArray, List.set_cons_zero, List.set_cons_succ]
            refine Mix.at_take (i := 12) (v := ?_) rfl (by kernel_rfl) (by kernel_rfl) (by kernel_rfl) (by kernel_rfl) (by kernel_rfl) (by kernel_rfl) (by kernel_rfl) (fun _ _ _ h => h) (Or.inl ⟨by rfl, ?_⟩) hS1 ?_
            rotate_left
            · intro w hSw
              (try dsimp only at hSw)
              go_simp
              try (with_reducible rfl)
            simp only [Act.put, List.setIfInBounds_toArray, List.set_cons_zero, List.set_cons_succ]
            refine Mix.at_step (i := 8) rfl (by kernel_rfl) (by kernel_rfl) (by rfl) ?_
            unfold Oper.wp
            go_simp
            refine (po_window H6.out).mono ?_
            rintro e' w7 ⟨rfl, h7⟩
            have hS1 := h7.cells
            dsimp only at hS1
            have H7 := Lib.hid h7
            clear h7 H6
            refine ⟨hS1, ?_⟩
            refine Mix.at_take (i := 13) (v := ?_) rfl (by kernel_rfl) (by kernel_rfl) (by kernel_rfl) (by kernel_rfl) (by kernel_rfl) (by kernel_rfl) (by kernel_rfl) (fun _ _ _ h => h) (Or.inl ⟨by rfl, ?_⟩) hS1 ?_
            rotate_left
            · intro w hSw
              (try dsimp only at hSw)
              go_simp
              try (with_reducible rfl)
            simp only [Act.put, List.setIfInBounds_toArray, List.set_cons_zero, List.set_cons_succ]
            refine Mix.at_tail _ rfl rfl (by kernel_rfl) ?_
            simp only [List.drop_succ_cons, List.drop_zero]
            go_wp2_with fail
            go_meet
            exact ⟨rfl, H7.out.shut⟩
          case rest =>
            obtain ⟨rfl, hc2⟩ := hcut
            have HZ := Lib.hid hc2
            clear hc2 HO hS1
            go_wp2_with fail
            exact ⟨⟨k + 1, HKN.out, by go_num, HZ⟩, down_one HKN.out⟩
      · obtain rfl : k = ops.length := Nat.le_antisymm hk (Nat.le_of_not_lt hkn)
        have k1 : ¬ (ops.length : Int) < (ops.length : Int) := Int.lt_irrefl _
        have hb := HC.out.below
        clear hkn hk
        go_wp2_with fail
        go_ret
        exact ⟨rfl, hb⟩

set_option maxRecDepth 100000 in
theorem channelPlays (w : World) {H : Type} {enc : TypeId × Value → H} {base base' : Nat} {sp : Nat → Bool} {held : Bool} {d : DataW H} {ps : List MemPlace} {r : Reach} (v : Value)
    (hok : Value.okWide Try.prog w r base' 78 v) (h : DataW.Trod enc Try.prog w base sp held 78 v d ps) :
    Calls Try.prog 10 #[v] w fun e' w' => e' = .returned (.bool true) ∧ Below w.heap.size w w' := by
  obtain ⟨l, hv, hwf⟩ := open_cops hok h
  exact channelPlays_core w v l hv hwf

end Go.Proofs.Ytlhlkjllihbokaa.R14
