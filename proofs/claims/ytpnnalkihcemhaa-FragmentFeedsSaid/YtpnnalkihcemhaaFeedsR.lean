/- The reference's assembler: a part read, by the program. -/
import Derived.Test.YtpnnalkihcemhaaFeedsM
import Derived.Deep.Cut
set_option linter.unusedVariables false
set_option linter.unusedSimpArgs false
namespace Go.Proofs.Ytpnnalkihcemhaa.Frag
open Go.Sort Go.RowKit Go.Deep Go.Proofs.Ytpnnalkihcemhaa.Mem Go.Proofs.Ytpnnalkihcemhaa.Open Go.Proofs.Ytpnnalkihcemhaa.Num Go.Proofs.Ytpnnalkihcemhaa.Wr Go.Proofs.Ytpnnalkihcemhaa.Bits Go.Proofs.Ytpnnalkihcemhaa.Step Go.Proofs.Ytpnnalkihcemhaa.Str Go.Proofs.YtpnnalkihcemhaaW.PrintWords

theorem bits_three {bs : List Int} (h : 3 ≤ bs.length) (k m : Nat) (hk : k + m ≤ 24) : ((bitsB bs).drop k).take m = ((bitsH bs).drop k).take m := by
  have e : bitsB bs = bitsH bs ++ bitsB (bs.drop 3) := by
    unfold bitsH bitsB
    rw [← List.flatMap_append, List.take_append_drop]
  have hl : (bitsH bs).length = 24 := by unfold bitsH; rw [bitsB_length, List.length_take]; omega
  rw [e, List.drop_append_of_le_length (by omega), List.take_append_of_le_length (by rw [List.length_drop]; omega)]
/-- What the three takes give. -/
theorem head_three {bs : List Int} (h : 3 ≤ bs.length) {x1 x2 x3 : Nat} (h1 : (x1 : Int) = val (((bitsB bs).drop 0).take 16)) (h2 : (x2 : Int) = val (((bitsB bs).drop 16).take 4)) (h3 : (x3 : Int) = val (((bitsB bs).drop 20).take 4)) : headOf bs = ⟨x1, x2 + 1, x3⟩ := by
  rw [bits_three h _ _ (by decide)] at h1 h2 h3
  unfold headOf
  rw [List.drop_zero] at h1
  rw [← h1, ← h2, ← h3]
  simp
theorem take_good {fl' : Bool} {at' at_ m L x : Nat} {P Q Z : Prop} (h : (fl' = false ∧ Q ∧ at' = at_ + m ∧ P) ∨ (fl' = true ∧ x = 0 ∧ (Z ∨ L < at_ + m))) (hz : ¬ Z) (hl : at_ + m ≤ L) : fl' = false ∧ at' = at_ + m ∧ P := by
  rcases h with h | ⟨_, _, h⟩
  · exact ⟨h.1, h.2.2⟩
  · rcases h with h | h
    · exact absurd h hz
    · omega
theorem room_for {n L a : Nat} (h : L = 8 * n) (h4 : 4 ≤ n) (ha : a ≤ 24) : a ≤ L := by omega
theorem rd3_facts {x1 x2 x3 : Nat} (h1 : x1 < 2 ^ 16) (h2 : x2 < 2 ^ 4) (h3 : x3 < 2 ^ 4) : IntKind.u16.wrap (x1 : Int) = (x1 : Int) ∧ IntKind.i64.wrap (x2 : Int) = (x2 : Int) ∧ IntKind.i64.wrap (x3 : Int) = (x3 : Int) ∧ wrap64 (x2 : Int) = (x2 : Int) ∧ wrap64 (x3 : Int) = (x3 : Int) ∧ (x1 : Int) % 65536 = (x1 : Int) ∧ wrap64 ((x2 : Int) + 1) = (x2 : Int) + 1 ∧ IntKind.i64.wrap ((x2 : Int) + 1) = (x2 : Int) + 1 := by
  have e16 : (2 : Nat) ^ 16 = 65536 := by decide
  have e4 : (2 : Nat) ^ 4 = 16 := by decide
  rw [wrap_u16, wrap_i64, wrap_i64, wrap_i64]; unfold wrap64; omega

set_option maxRecDepth 100000 in
set_option maxHeartbeats 2000000 in
theorem rread (W w : World) (F : List Ent) (A : Option Addr) (c : Nat) (bs : List Int) (hH : Holds W W.heap.size w F) (hr : Rd W (.slice A bs.length c) bs.length (nums .u8 bs)) (hb : bytesOk bs) :
    Calls Try.prog 50 #[.slice A bs.length c] w fun e' w' => ∃ (x : RP) (Ao : Option Addr) (no co : Nat), e' = .returned (.tuple #[.agg (pcells (x, .slice Ao no co)).toArray, .bool (okPart bs)]) ∧ Holds W W.heap.size w' F ∧ (okPart bs = true → x = rpOf bs ∧ RPok W (x, .slice Ao no co)) := by
  have h0 := hH.alloc [.int .u16 0, .int .i64 0, .int .i64 0, .slice none 0 0] 117
  have H0 := Lib.hid h0
  have HR := Lib.hid (And.intro hr hb)
  obtain ⟨n, hn⟩ : ∃ n, bs.length = n := ⟨_, rfl⟩
  rw [hn]
  have HN := Lib.hid hn
  clear h0 hH hr hb
  by_cases c1 : n < 4 ∨ 303 < n
  · have hok : okPart bs = false := by
      unfold okPart
      rw [hn]
      rcases c1 with h | h
      · rw [decide_eq_false (Nat.not_le.2 h)]; rfl
      · rw [decide_eq_false (Nat.not_le.2 h), Bool.and_false]; rfl
    rw [hok]
    by_cases c2 : n < 4
    · have t1 : decide ((n : Int) < 4) = true := dt (by omega)
      clear c1 c2 hn
      go_enter Try.func50, Try.ntmps50
      go_wp2_with fail
      refine bodyPost_ret (results_ct rfl _ _ _ _ _ _ _ rfl H0.out.head.2 Try.underlying117 rfl (by kernel_rfl)) rfl ⟨⟨0, 0, 0, []⟩, none, 0, 0, rfl, H0.out.tail, fun h => by cases h⟩
    · have t1 : decide ((n : Int) < 4) = false := df (by omega)
      have t2 : decide ((303 : Int) < (n : Int)) = true := dt (by omega)
      clear c1 c2 hn
      go_enter Try.func50, Try.ntmps50
      go_wp2_with fail
      refine bodyPost_ret (results_ct rfl _ _ _ _ _ _ _ rfl H0.out.head.2 Try.underlying117 rfl (by kernel_rfl)) rfl ⟨⟨0, 0, 0, []⟩, none, 0, 0, rfl, H0.out.tail, fun h => by cases h⟩
  · have t1 : decide ((n : Int) < 4) = false := df (by omega)
    have t2 : decide ((303 : Int) < (n : Int)) = false := df (by omega)
    have HC := Lib.hid (show 4 ≤ n ∧ n ≤ 303 by omega)
    have hnw := rrnew W _ _ (.slice A bs.length c) bs H0.out HR.out.1 HR.out.2
    rw [hn] at hnw
    have HNW := Lib.hid hnw
    clear c1 hn hnw
    go_enter Try.func50, Try.ntmps50
    go_wp2_with fail
    refine HNW.out.mono ?_
    rintro e' w1 ⟨rb, rfl, h1⟩
    have hll : (bitsB bs).length = 8 * n := by rw [bitsB_length, HN.out]
    have hlb : (bitsB bs).length ≤ 1000000000 := by rw [hll]; have := HC.out; omega
    have hk1 := rrtake W W.heap.size w1 rb (bitsB bs) 0 false _ 16 h1 (Nat.zero_le _) hlb (by decide)
    have HK1 := Lib.hid hk1
    have HLL := Lib.hid (And.intro hll hlb)
    clear h1 hll hlb hk1 HNW
    go_wp2_with fail
    refine HK1.out.mono ?_
    rintro e' w2 ⟨x1, p1, fl1, rfl, h2, _, hx1, hc1⟩
    obtain ⟨rfl, rfl, hv1⟩ := take_good hc1 (by simp) (room_for HLL.out.1 HC.out.1 (by decide))
    obtain ⟨v1, h2⟩ := h2
    have h3 := h2.alloc [.int .u16 (x1 : Int), .int .i64 0, .int .i64 0, .slice none 0 0] 117
    obtain ⟨g5, hg5⟩ : ∃ g5, w2.heap.size = g5 := ⟨_, rfl⟩
    rw [hg5] at h3
    have h4 := Holds.sel [_, _, _] h3 [1, 2, 0] rfl
    simp only [pick, List.getElem?_cons_succ, List.getElem?_cons_zero, List.append_eq, List.cons_append, List.nil_append] at h4
    have hk2 := rrtake W W.heap.size _ rb (bitsB bs) (0 + 16) false _ 4 ⟨v1, h4⟩ (room_for HLL.out.1 HC.out.1 (by decide)) HLL.out.2 (by decide)
    have HK2 := Lib.hid hk2
    have HV1 := Lib.hid (And.intro hx1 hv1)
    have u1 : IntKind.u16.wrap (x1 : Int) = (x1 : Int) := by rw [wrap_u16]; have e16 : (2 : Nat) ^ 16 = 65536 := by decide
                                                             omega
    have u2 : (x1 : Int) % 65536 = (x1 : Int) := by rw [← wrap_u16]; exact u1
    clear h2 h3 h4 hk2 hx1 hv1 hc1 HK1
    go_upto_region 5 with (fail)
    change Code.wp _ _ _ _ (w2.alloc (.cells [Value.int .u16 (x1 : Int), .int .i64 0, .int .i64 0, .slice none 0 0].toArray 117))
    generalize w2.alloc (.cells [Value.int .u16 (x1 : Int), .int .i64 0, .int .i64 0, .slice none 0 0].toArray 117) = w3 at *
    clear hg5 u1 u2
    go_wp2_with fail
    refine HK2.out.mono ?_
    rintro e' w4 ⟨x2, p2, fl2, rfl, h5, _, hx2, hc2⟩
    obtain ⟨rfl, rfl, hv2⟩ := take_good hc2 (by simp) (room_for HLL.out.1 HC.out.1 (by decide))
    obtain ⟨v2, h5⟩ := h5
    obtain ⟨nn, hnn⟩ : ∃ nn : Nat, (x2 : Int) + 1 = (nn : Int) := ⟨x2 + 1, rfl⟩
    have hn16 : 0 < nn ∧ nn < 17 ∧ nn = x2 + 1 := by
      have e4 : (2 : Nat) ^ 4 = 16 := by decide
      omega
    obtain ⟨_, u2, _, u4, _, _, u7, u8⟩ := rd3_facts (x1 := 0) (x3 := 0) (by decide) hx2 (by decide)
    have q1 := h5.up2.cell 1 rfl
    have f1 := h5.up2.frozen 1
    have h6 := h5.up2.set 1 (.int .i64 (nn : Int))
    simp only [List.set] at h6
    have h7 := Holds.sel [_, _, _] h6 [1, 2, 0] rfl
    simp only [pick, List.getElem?_cons_succ, List.getElem?_cons_zero, List.append_eq, List.cons_append, List.nil_append] at h7
    have hk3 := rrtake W W.heap.size _ rb (bitsB bs) (0 + 16 + 4) false _ 4 ⟨v2, h7⟩ (room_for HLL.out.1 HC.out.1 (by decide)) HLL.out.2 (by decide)
    have HK3 := Lib.hid hk3
    have HV2 := Lib.hid (And.intro hx2 (And.intro hv2 hn16))
    rw [hnn] at u7 u8
    clear h5 h6 h7 hk3 hx2 hv2 hc2 hn16 HK2
    go_upto_region 6 with (fail)
    generalize w4.setCell ⟨g5, 1, none⟩ (.int .i64 (nn : Int)) = w5 at *
    clear q1 f1 hnn u2 u4 u7 u8
    go_wp2_with fail
    refine HK3.out.mono ?_
    rintro e' w6 ⟨x3, p3, fl3, rfl, h8, _, hx3, hc3⟩
    obtain ⟨rfl, rfl, hv3⟩ := take_good hc3 (by simp) (room_for HLL.out.1 HC.out.1 (by decide))
    obtain ⟨v3, h8⟩ := h8
    obtain ⟨_, _, u3, _, u5, _, _, _⟩ := rd3_facts (x1 := 0) (x2 := 0) (by decide) (by decide) hx3
    have q2 := h8.up2.cell 2 rfl
    have f2 := h8.up2.frozen 2
    have h9 := h8.up2.set 2 (.int .i64 (x3 : Int))
    simp only [List.set] at h9
    have hd := head_three (Nat.le_trans (by decide) (HN.out ▸ HC.out.1)) HV1.out.2 HV2.out.2.1 hv3
    have HD := Lib.hid (And.intro hd (And.intro HV1.out.1 (And.intro HV2.out.1 hx3)))
    have H9 := Lib.hid h9
    clear h8 h9 hx3 hv3 hc3 HK3 hd
    go_upto_region 7 with (fail)
    generalize w6.setCell ⟨g5, 2, none⟩ (.int .i64 (x3 : Int)) = w7 at *
    clear q2 f2 u3 u5
    have hrd := rd_drop HR.out.1 rfl (by rw [HN.out]; exact Nat.le_trans (by decide) HC.out.1)
    rw [HN.out] at hrd
    obtain ⟨A3, hA3⟩ : ∃ A3, (if c = 3 then A else Option.map (fun x => { block := x.block, off := x.off + 3 }) A) = A3 := ⟨_, rfl⟩
    rw [hA3] at hrd
    have hn3 := (three_of HC.out.1).1
    have q3 := H9.out.cell 3 rfl
    have f3 := H9.out.frozen 3
    have h10 := H9.out.set 3 (.slice A3 (n - 3) (c - 3))
    simp only [List.set] at h10
    have H10 := Lib.hid h10
    have HRD := Lib.hid hrd
    clear h10 hrd
    go_upto_region 8 with (fail)
    generalize w7.setCell ⟨g5, 3, none⟩ (.slice A3 (n - 3) (c - 3)) = w8 at *
    clear q3 f3 hA3 hn3
    have g0 := H10.out.cell 0 rfl
    have g1 := H10.out.cell 1 rfl
    have g2 := H10.out.cell 2 rfl
    have g3 := H10.out.cell 3 rfl
    have z0 := H10.out.up3.cell 0 rfl
    have z1 := H10.out.up3.cell 1 rfl
    have z2 := H10.out.up3.cell 2 rfl
    have z3 := H10.out.up3.cell 3 rfl
    have y0 := H10.out.up3.frozen 0
    have y1 := H10.out.up3.frozen 1
    have y2 := H10.out.up3.frozen 2
    have y3 := H10.out.up3.frozen 3
    have hz := (((H10.out.up3.set 0 (.int .u16 (x1 : Int))).set 1 (.int .i64 (nn : Int))).set 2 (.int .i64 (x3 : Int))).set 3 (.slice A3 (n - 3) (c - 3))
    simp only [List.set] at hz
    have HZ := Lib.hid hz
    have hop : okPart bs = (decide (4 ≤ n) && decide (n ≤ 303) && decide (x3 < nn) && decide (nn ≤ 14) && (decide (x3 + 1 = nn) || decide (n = 303))) := by
      unfold okPart
      rw [HD.out.1, HN.out, HV2.out.2.2.2.2]
    have HOP := Lib.hid hop
    obtain ⟨w1', w2'⟩ := nn_facts (nn := nn) HV2.out.2.2.1 HV2.out.2.2.2.1
    clear hz hop
    by_cases c3 : x3 < nn
    · have t3 : decide ((x3 : Int) < (nn : Int)) = true := dt (Int.ofNat_lt.2 c3)
      have t3n : decide (x3 < nn) = true := dt c3
      by_cases c4 : nn ≤ 14
      · have t4 : decide ((nn : Int) ≤ 14) = true := dt (by omega)
        have t4n : decide (nn ≤ 14) = true := dt c4
        have hfin : (⟨(x1 : Int), (nn : Int), (x3 : Int), bs.drop 3⟩ : RP) = rpOf bs ∧ RPok W (⟨(x1 : Int), (nn : Int), (x3 : Int), bs.drop 3⟩, .slice A3 (n - 3) (c - 3)) := by
          refine ⟨?_, ?_⟩
          · unfold rpOf
            rw [HD.out.1, HV2.out.2.2.2.2]
          · have e16 : (2 : Nat) ^ 16 = 65536 := by decide
            have h1 := HV1.out.1
            have hl : (bs.drop 3).length = n - 3 := by rw [List.length_drop, HN.out]
            refine ⟨Int.natCast_nonneg _, by simp only; omega, by simp only; omega, by simp only; omega, Int.natCast_nonneg _, by simp only; omega, ?_, ?_⟩
            · simp only
              rw [hl]
              exact HRD.out
            · simp only
              rw [hl]
              have := HC.out.2
              omega
        have HFIN := Lib.hid hfin
        have HC34 := Lib.hid (And.intro c3 c4)
        clear hfin
        by_cases c5 : x3 + 1 = nn
        · have t5 : ((x3 : Int) == (nn : Int) - 1) = true := beq_iff_eq.2 (by omega)
          have HC5 := Lib.hid c5
          clear c3 c4 c5
          have HOKV := Lib.hid (show okPart bs = true by rw [HOP.out]; rw [decide_eq_true HC.out.1, decide_eq_true HC.out.2, decide_eq_true HC34.out.1, decide_eq_true HC34.out.2, decide_eq_true HC5.out]; rfl)
          go_wp2_with fail
          refine bodyPost_ret (results_ct rfl _ _ _ _ _ _ _ rfl HZ.out.head.2 Try.underlying117 rfl (by kernel_rfl)) rfl ⟨⟨(x1 : Int), (nn : Int), (x3 : Int), bs.drop 3⟩, _, _, _, by rw [HOKV.out]; rfl, HZ.out.tail.tail.tail.tail, fun h => ?_⟩
          exact HFIN.out
        · have t5 : ((x3 : Int) == (nn : Int) - 1) = false := beq_eq_false_iff_ne.2 (by omega)
          have HC5 := Lib.hid c5
          by_cases c6 : n = 303
          · have t6 : ((n : Int) == 303) = true := beq_iff_eq.2 (by omega)
            have t6n : (n == 303) = true := beq_iff_eq.2 c6
            have HC6 := Lib.hid c6
            clear c3 c4 c5 c6
            have HOKV := Lib.hid (show okPart bs = true by rw [HOP.out]; rw [decide_eq_true HC.out.1, decide_eq_true HC.out.2, decide_eq_true HC34.out.1, decide_eq_true HC34.out.2, decide_eq_true HC6.out, Bool.or_true]; rfl)
            go_wp2_with fail
            refine bodyPost_ret (results_ct rfl _ _ _ _ _ _ _ rfl HZ.out.head.2 Try.underlying117 rfl (by kernel_rfl)) rfl ⟨⟨(x1 : Int), (nn : Int), (x3 : Int), bs.drop 3⟩, _, _, _, by rw [HOKV.out]; rfl, HZ.out.tail.tail.tail.tail, fun h => ?_⟩
            exact HFIN.out
          · have t6 : ((n : Int) == 303) = false := beq_eq_false_iff_ne.2 (by omega)
            have t6n : (n == 303) = false := beq_eq_false_iff_ne.2 c6
            have HC6 := Lib.hid c6
            clear c3 c4 c5 c6
            have HOKV := Lib.hid (show okPart bs = false by rw [HOP.out]; rw [decide_eq_false HC5.out, decide_eq_false HC6.out, show (false || false) = false from rfl, Bool.and_false])
            go_wp2_with fail
            refine bodyPost_ret (results_ct rfl _ _ _ _ _ _ _ rfl HZ.out.head.2 Try.underlying117 rfl (by kernel_rfl)) rfl ⟨⟨(x1 : Int), (nn : Int), (x3 : Int), bs.drop 3⟩, _, _, _, by rw [HOKV.out]; rfl, HZ.out.tail.tail.tail.tail, fun h => ?_⟩
            exact absurd (h.symm.trans HOKV.out) (by decide)
      · have t4 : decide ((nn : Int) ≤ 14) = false := df (by omega)
        have t4n : decide (nn ≤ 14) = false := df c4
        have HC4 := Lib.hid c4
        clear c3 c4
        have HOKV := Lib.hid (show okPart bs = false by rw [HOP.out]; rw [decide_eq_false HC4.out, Bool.and_false, Bool.false_and])
        go_wp2_with fail
        refine bodyPost_ret (results_ct rfl _ _ _ _ _ _ _ rfl HZ.out.head.2 Try.underlying117 rfl (by kernel_rfl)) rfl ⟨⟨(x1 : Int), (nn : Int), (x3 : Int), bs.drop 3⟩, _, _, _, by rw [HOKV.out]; rfl, HZ.out.tail.tail.tail.tail, fun h => ?_⟩
        exact absurd (h.symm.trans HOKV.out) (by decide)
    · have t3 : decide ((x3 : Int) < (nn : Int)) = false := df (fun h => c3 (Int.ofNat_lt.1 h))
      have t3n : decide (x3 < nn) = false := df c3
      have HC3 := Lib.hid c3
      clear c3
      have HOKV := Lib.hid (show okPart bs = false by rw [HOP.out]; rw [decide_eq_false HC3.out, Bool.and_false, Bool.false_and, Bool.false_and])
      go_wp2_with fail
      refine bodyPost_ret (results_ct rfl _ _ _ _ _ _ _ rfl HZ.out.head.2 Try.underlying117 rfl (by kernel_rfl)) rfl ⟨⟨(x1 : Int), (nn : Int), (x3 : Int), bs.drop 3⟩, _, _, _, by rw [HOKV.out]; rfl, HZ.out.tail.tail.tail.tail, fun h => ?_⟩
      exact absurd (h.symm.trans HOKV.out) (by decide)

end Go.Proofs.Ytpnnalkihcemhaa.Frag
