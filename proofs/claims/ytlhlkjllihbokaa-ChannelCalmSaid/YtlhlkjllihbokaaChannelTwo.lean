/- The law ChannelTwo: between two channels, whatever is lost, doubled and turned: what is acknowledged came, each at most once, and no datagram is taken twice. For all scripts; no condition. Here: the walk. -/
import Derived.Test.YtlhlkjllihbokaaChLI
set_option linter.unusedVariables false
set_option linter.unusedSimpArgs false
namespace Go.Proofs.Ytlhlkjllihbokaa.Chan
open Go.Sort Go.RowKit Go.Deep Go.WideShapes Go.ChangeShapes Go.Proofs.Ytlhlkjllihbokaa.Mem Go.Proofs.Ytlhlkjllihbokaa.Open Go.Proofs.Ytlhlkjllihbokaa.Num Go.Proofs.Ytlhlkjllihbokaa.Step Go.Proofs.Ytlhlkjllihbokaa.Ser Go.Proofs.YtlhlkjllihbokaaW.PrintWords

theorem li_start (w w1 : World) (hb : Below w.heap.size w w1) :
    LI w (w1.heap.size + 1) w1.heap.size (w1.heap.size + 3) (w1.heap.size + 2) 0
      ((((w1.alloc (.cells #[.int .u16 0, .bool false, .int .u16 0, .int .u32 0, .slice none 0 0] 43)).alloc (.cells #[.pointer (some ⟨w1.heap.size, 0, none⟩), .slice none 0 0, .slice none 0 0, .slice none 0 0] 47)).alloc (.cells #[.int .u16 0, .bool false, .int .u16 0, .int .u32 0, .slice none 0 0] 43)).alloc (.cells #[.pointer (some ⟨w1.heap.size + 1 + 1, 0, none⟩), .slice none 0 0, .slice none 0 0, .slice none 0 0] 47)) := by
  have h0 := hbelowed' (Holds.start w) hb
  have h1 := h0.alloc [.int .u16 0, .bool false, .int .u16 0, .int .u32 0, .slice none 0 0] 43
  have h2 := h1.alloc [.pointer (some ⟨w1.heap.size, 0, none⟩), .slice none 0 0, .slice none 0 0, .slice none 0 0] 47
  have h3 := h2.alloc [.int .u16 0, .bool false, .int .u16 0, .int .u32 0, .slice none 0 0] 43
  have h4 := h3.alloc [.pointer (some ⟨w1.heap.size + 2, 0, none⟩), .slice none 0 0, .slice none 0 0, .slice none 0 0] 47
  simp only [World.size_alloc, Nat.add_assoc] at h4
  have h5 := (((((((h4.nilrow 22 1).nilrow 56 4).nilrow 4 1).nilrow 4 1).nilrow 22 1).nilrow 56 4).nilrow 4 1).nilrow 4 1
  have h6 := Holds.sel [_, _, _, _, _, _, _, _, _, _, _, _] h5 [10, 11, 7, 6, 5, 4, 8, 9, 3, 2, 1, 0] rfl
  simp only [pick, List.getElem?_cons_succ, List.getElem?_cons_zero, List.append_eq, List.cons_append, List.nil_append] at h6
  exact ⟨blank, blank, [], both_blank, Nat.le_refl _, Nat.le_refl _, _, _, _, _, _, _, _, _, h6⟩

theorem kinds {kd : Int} (h1 : ¬ kd = 1) (h2 : ¬ kd = 2) (h3 : ¬ kd = 3) (h4 : ¬ kd = 4) : (kd == 1) = false ∧ (kd == 2) = false ∧ (kd == 3) = false ∧ (kd == 4) = false :=
  ⟨beq_eq_false_iff_ne.2 h1, beq_eq_false_iff_ne.2 h2, beq_eq_false_iff_ne.2 h3, beq_eq_false_iff_ne.2 h4⟩
theorem at_most {N : Nat} (h : N ≤ 64) : decide ((64 : Int) < (N : Int)) = false ∧ ¬ (64 : Int) < (N : Int) := ⟨decide_eq_false (by omega), by omega⟩

set_option maxRecDepth 100000 in
set_option maxHeartbeats 4000000 in
theorem channelTwo_core (w : World) (v : Value) (ops : List POp) (hv : RdL w v 2 (ops.map POp.cells)) :
    Calls Try.prog 7 #[v] w fun e' w' => e' = .returned (.bool true) ∧ Below w.heap.size w w' := by
  obtain ⟨A, c, rfl, hc, hm, hr⟩ := pops_at hv
  have HR := Lib.hid hr
  clear hr hm hc hv
  by_cases hbig : 300 < ops.length
  · have tb : decide ((300 : Int) < (ops.length : Int)) = true := by simp; omega
    clear hbig
    go_enter Try.func7, Try.ntmps7
    go_wp2_with fail
    refine (awake14 _).mono ?_
    rintro e' w1 ⟨rfl, h1⟩
    go_wp2_with fail
    refine (awake14 _).mono ?_
    rintro e' w2 ⟨rfl, h2⟩
    go_wp2_with fail
    go_ret
    exact ⟨rfl, h1.trans (h2.mono h1.size)⟩
  · have tb : decide ((300 : Int) < (ops.length : Int)) = false := by simp; omega
    have hl : ops.length ≤ 1000 := by omega
    have hl3 : ops.length ≤ 300 := by omega
    have HL := Lib.hid hl
    have HL3 := Lib.hid hl3
    clear hbig hl hl3
    go_enter Try.func7, Try.ntmps7
    go_wp2_with fail
    refine (awake14 _).mono ?_
    rintro e' w1 ⟨rfl, h1⟩
    have HS := Lib.hid (li_start w w1 h1)
    clear h1
    go_wp2_with fail
    go_loopw [5] (fun i wr => ∃ k : Nat, k ≤ ops.length ∧ i = .int .i64 k ∧ Hid (LI w (w1.heap.size + 1) w1.heap.size (w1.heap.size + 3) (w1.heap.size + 2) k wr)) (fun i _ => ops.length - (intOf i).toNat)
    case atStart => exact ⟨0, Nat.zero_le _, rfl, HS⟩
    case round =>
      obtain ⟨k, hk, rfl, HC⟩ := hrel
      clear HS
      by_cases hkn : k < ops.length
      · obtain ⟨k0, k1, k2, k3⟩ := k_facts hkn HL.out
        have hk4 : k ≤ 400 := Nat.le_trans (Nat.le_of_lt hkn) (Nat.le_trans HL3.out (by decide))
        have hk40 := Lib.hid hk4
        obtain ⟨bs, off, rfl, hlt, d0, d1⟩ := HR.out k ops[k] (List.getElem?_eq_getElem hkn)
        have hbl := HC.out.below
        have c0 : wr.cell? ⟨bs, off + k * 2, none⟩ = some (.int .i64 ops[k].kind) := by rw [hbl.cell (p := ⟨bs, off + k * 2, none⟩) hlt]; exact d0
        have c1 : wr.cell? ⟨bs, off + k * 2 + 1, none⟩ = some (.int .i64 ops[k].n) := by rw [hbl.cell (p := ⟨bs, off + k * 2 + 1, none⟩) hlt]; exact d1
        obtain ⟨⟨kd, n⟩, ho⟩ : ∃ o, ops[k] = o := ⟨_, rfl⟩
        rw [ho] at c0 c1
        dsimp only at c0 c1
        have HLT := Lib.hid hlt
        have HKN := Lib.hid hkn
        clear ho hbl d0 d1 hk hk4 hkn hlt
        by_cases q1 : kd = 1
        · subst q1
          go_wp2_with fail
          refine (li_send HC.out hk40.out).mono ?_
          rintro e' w4 ⟨rfl, h4⟩
          have H1 := Lib.hid h4
          clear h4 HC c0 c1
          have hp := H1.out.ptr
          have hp2 := H1.out.swap.ptr
          go_wp2_with fail
          refine (li_open H1.out).mono ?_
          rintro e' w5 ⟨A5, N5, c5, rfl, hN5, h5⟩
          obtain ⟨m0, m1⟩ := at_most hN5
          have hp2 := h5.swap.ptr
          have H5 := Lib.hid h5
          clear h5 H1 hp
          go_wp2_with fail
          refine (li_open H5.out.swap).mono ?_
          rintro e' w6 ⟨A6, N6, c6, rfl, hN6, h6⟩
          obtain ⟨p0, p1⟩ := at_most hN6
          have H6 := Lib.hid h6.swap
          clear h6 H5 hp2 hN5 hN6
          go_wp2_with fail
          exact ⟨⟨k + 1, HKN.out, by go_num, H6⟩, down_one HKN.out⟩
        by_cases q2 : kd = 2
        · subst q2
          go_wp2_with fail
          refine (li_send HC.out.swap hk40.out).mono ?_
          rintro e' w4 ⟨rfl, h4⟩
          have H1 := Lib.hid h4.swap
          clear h4 HC c0 c1 q1
          have hp := H1.out.ptr
          have hp2 := H1.out.swap.ptr
          go_wp2_with fail
          refine (li_open H1.out).mono ?_
          rintro e' w5 ⟨A5, N5, c5, rfl, hN5, h5⟩
          obtain ⟨m0, m1⟩ := at_most hN5
          have hp2 := h5.swap.ptr
          have H5 := Lib.hid h5
          clear h5 H1 hp
          go_wp2_with fail
          refine (li_open H5.out.swap).mono ?_
          rintro e' w6 ⟨A6, N6, c6, rfl, hN6, h6⟩
          obtain ⟨p0, p1⟩ := at_most hN6
          have H6 := Lib.hid h6.swap
          clear h6 H5 hp2 hN5 hN6
          go_wp2_with fail
          exact ⟨⟨k + 1, HKN.out, by go_num, H6⟩, down_one HKN.out⟩
        by_cases q3 : kd = 3
        · subst q3
          go_wp2_with fail
          refine (li_take n HC.out.swap hk40.out).mono ?_
          rintro e' w4 ⟨rfl, h4⟩
          have H1 := Lib.hid h4.swap
          clear h4 HC c0 c1 q1 q2
          have hp := H1.out.ptr
          have hp2 := H1.out.swap.ptr
          go_wp2_with fail
          refine (li_open H1.out).mono ?_
          rintro e' w5 ⟨A5, N5, c5, rfl, hN5, h5⟩
          obtain ⟨m0, m1⟩ := at_most hN5
          have hp2 := h5.swap.ptr
          have H5 := Lib.hid h5
          clear h5 H1 hp
          go_wp2_with fail
          refine (li_open H5.out.swap).mono ?_
          rintro e' w6 ⟨A6, N6, c6, rfl, hN6, h6⟩
          obtain ⟨p0, p1⟩ := at_most hN6
          have H6 := Lib.hid h6.swap
          clear h6 H5 hp2 hN5 hN6
          go_wp2_with fail
          exact ⟨⟨k + 1, HKN.out, by go_num, H6⟩, down_one HKN.out⟩
        by_cases q4 : kd = 4
        · subst q4
          go_wp2_with fail
          refine (li_take n HC.out hk40.out).mono ?_
          rintro e' w4 ⟨rfl, h4⟩
          have H1 := Lib.hid h4
          clear h4 HC c0 c1 q1 q2 q3
          have hp := H1.out.ptr
          have hp2 := H1.out.swap.ptr
          go_wp2_with fail
          refine (li_open H1.out).mono ?_
          rintro e' w5 ⟨A5, N5, c5, rfl, hN5, h5⟩
          obtain ⟨m0, m1⟩ := at_most hN5
          have hp2 := h5.swap.ptr
          have H5 := Lib.hid h5
          clear h5 H1 hp
          go_wp2_with fail
          refine (li_open H5.out.swap).mono ?_
          rintro e' w6 ⟨A6, N6, c6, rfl, hN6, h6⟩
          obtain ⟨p0, p1⟩ := at_most hN6
          have H6 := Lib.hid h6.swap
          clear h6 H5 hp2 hN5 hN6
          go_wp2_with fail
          exact ⟨⟨k + 1, HKN.out, by go_num, H6⟩, down_one HKN.out⟩
        · obtain ⟨r1, r2, r3, r4⟩ := kinds q1 q2 q3 q4
          have H1 := Lib.hid HC.out.next
          clear HC q1 q2 q3 q4
          have hp := H1.out.ptr
          have hp2 := H1.out.swap.ptr
          go_wp2_with fail
          refine (li_open H1.out).mono ?_
          rintro e' w5 ⟨A5, N5, c5, rfl, hN5, h5⟩
          obtain ⟨m0, m1⟩ := at_most hN5
          have hp2 := h5.swap.ptr
          have H5 := Lib.hid h5
          clear h5 H1 hp
          go_wp2_with fail
          refine (li_open H5.out.swap).mono ?_
          rintro e' w6 ⟨A6, N6, c6, rfl, hN6, h6⟩
          obtain ⟨p0, p1⟩ := at_most hN6
          have H6 := Lib.hid h6.swap
          clear h6 H5 hp2 hN5 hN6
          go_wp2_with fail
          exact ⟨⟨k + 1, HKN.out, by go_num, H6⟩, down_one HKN.out⟩
      · obtain rfl : k = ops.length := Nat.le_antisymm hk (Nat.le_of_not_lt hkn)
        have k1 : ¬ (ops.length : Int) < (ops.length : Int) := Int.lt_irrefl _
        have hb := HC.out.below
        clear hkn hk
        go_wp2_with fail
        go_ret
        exact ⟨rfl, hb⟩

set_option maxRecDepth 100000 in
theorem channelTwo (w : World) {H : Type} {enc : TypeId × Value → H} {base base' : Nat} {sp : Nat → Bool} {held : Bool} {d : DataW H} {ps : List MemPlace} {r : Reach} (v : Value)
    (hok : Value.okWide Try.prog w r base' 39 v) (h : DataW.Trod enc Try.prog w base sp held 39 v d ps) :
    Calls Try.prog 7 #[v] w fun e' w' => e' = .returned (.bool true) ∧ Below w.heap.size w w' := by
  obtain ⟨l, hv⟩ := open_pops hok h
  exact channelTwo_core w v l hv

end Go.Proofs.Ytlhlkjllihbokaa.Chan
