/- The reference's receiver of lines: what Take takes. -/
import Derived.Test.YtpnnalkihcemhaaRRT
import Derived.Test.YtpnnalkihcemhaaRcv
import Derived.Laws.Concat
import Derived.Deep.Cut
set_option linter.unusedVariables false
set_option linter.unusedSimpArgs false
namespace Go.Proofs.Ytpnnalkihcemhaa.Str
open Go.Sort Go.RowKit Go.Proofs.Ytpnnalkihcemhaa.Mem Go.Proofs.Ytpnnalkihcemhaa.Bits Go.Proofs.Ytpnnalkihcemhaa.Wr Go.Proofs.Ytpnnalkihcemhaa.Num Go.Proofs.Ytpnnalkihcemhaa.Step Go.Proofs.YtpnnalkihcemhaaW.PrintWords

theorem strOf_snoc (ys : List Int) (y : Int) : strOfNums ys ++ strOfNums [y] = strOfNums (ys ++ [y]) := by
  have h : (strOfNums ys ++ strOfNums [y]).data.toList = (strOfNums (ys ++ [y])).data.toList := by
    rw [strOfNums_data, List.map_append, ByteArray.data_append, Array.toList_append, strOfNums_data, strOfNums_data]
  have h2 : (strOfNums ys ++ strOfNums [y]).data = (strOfNums (ys ++ [y])).data := Array.toList_inj.1 h
  have e : ∀ a b : ByteArray, a.data = b.data → a = b := fun a b h => by cases a; cases b; cases h; rfl
  exact e _ _ h2

theorem x2_facts {x : Nat} (h : x < 2 ^ 32) : IntKind.i64.wrap (x : Int) = (x : Int) ∧ wrap64 (x : Int) = (x : Int) ∧ IntKind.u64.wrap (x : Int) = (x : Int) := by rw [wrap_i64, wrap_u64]; unfold wrap64; omega
theorem three_le {n : Nat} (h : 3 ≤ n) : 3 ≤ n := h
theorem lt1_facts {k : Nat} (h : ¬ k = 0) : decide ((k : Int) < 1) = false ∧ ¬ (k : Int) < 1 ∧ (1 : Int) ≤ (k : Int) := by
  refine ⟨?_, by omega, by omega⟩
  simp; omega
theorem sum_no {ys : List Int} {y : Int} {j kk : Nat} (hys : ys.length = j) (hj : j < kk) (hk : kk ≤ 60) (h : 9223372036854775807 < (strOfNums ys).size + (strOfNums [y]).size) : False := by
  rw [strOfNums_size, strOfNums_size, hys] at h
  simp at h
  omega
theorem chars_nextR {Bt : List Bool} {a5 a6 at3 j kk y : Nat} {fl5 fl6 : Bool} {ys : List Int} (hC : (fl5 = false ∧ a5 = at3 + 8 * j ∧ ys = chars j (Bt.drop at3)) ∨ (fl5 = true ∧ Bt.length < at3 + 8 * kk))
    (hT : (fl6 = false ∧ fl5 = false ∧ a6 = a5 + 8 ∧ (y : Int) = val ((Bt.drop a5).take 8)) ∨ (fl6 = true ∧ y = 0 ∧ (fl5 = true ∨ Bt.length < a5 + 8))) (hj : j < kk) :
    (fl6 = false ∧ a6 = at3 + 8 * (j + 1) ∧ ys ++ [(y : Int)] = chars (j + 1) (Bt.drop at3)) ∨ (fl6 = true ∧ Bt.length < at3 + 8 * kk) := by
  rcases hT with ⟨e1, e2, e3, e4⟩ | ⟨e1, _, e3⟩
  · rcases hC with ⟨_, c2, c3⟩ | ⟨c1, _⟩
    · left
      refine ⟨e1, by omega, ?_⟩
      rw [chars_succ, ← c3, List.drop_drop, ← c2, ← e4]
    · rw [c1] at e2; cases e2
  · right
    refine ⟨e1, ?_⟩
    rcases hC with ⟨c1, c2, _⟩ | ⟨_, c2⟩
    · rcases e3 with h | h
      · rw [c1] at h; cases h
      · omega
    · exact c2
theorem first_i {x2 k : Nat} (h : x2 < 2 ^ 32) (hk : k < 8) : IntKind.i64.wrap ((x2 : Int) + (k : Int)) = (x2 : Int) + (k : Int) ∧ wrap64 ((x2 : Int) + (k : Int)) = (x2 : Int) + (k : Int) := by rw [wrap_i64]; unfold wrap64; omega
theorem keep_iff {given : Int} {x2 d k : Nat} (h : (given + 1 - (x2 : Int)).toNat = d) (hk : d ≤ k) (hg : 0 ≤ given ∧ given ≤ 100000) : given < (x2 : Int) + (k : Int) := by omega
theorem keep_not {given : Int} {x2 d k : Nat} (h : (given + 1 - (x2 : Int)).toNat = d) (hk : ¬ d ≤ k) : ¬ given < (x2 : Int) + (k : Int) := by omega
theorem ne_zero_beq {x : Nat} (h : ¬ x = 0) : ((x : Int) == 0) = false := beq_eq_false_iff_ne.2 (by omega)
theorem given1 {given : Int} (hg : 0 ≤ given ∧ given ≤ 100000) : IntKind.i64.wrap (given + 1) = given + 1 ∧ wrap64 (given + 1) = given + 1 := by
  rw [wrap_i64]; unfold wrap64; omega
theorem given_m {given : Int} {k d : Nat} (hg : 0 ≤ given ∧ given ≤ 100000) (hk : k < 8) : ∃ m : Nat, k - d = m ∧ IntKind.i64.wrap (given + (m : Int)) = given + (m : Int) ∧ wrap64 (given + (m : Int)) = given + (m : Int) := by
  refine ⟨k - d, rfl, ?_, ?_⟩
  · rw [wrap_i64]; unfold wrap64; omega
  · unfold wrap64; omega
theorem recv_end {given : Int} {l : List Bool} {x2 k d m : Nat} {acc : List ByteArray}
    (h : ∀ given, recv given l = if x2 = 0 then ([], false, given) else if given + 1 < (x2 : Int) ∨ (x2 : Int) + (k : Int) ≤ given + 1 then ([], true, given) else (acc.drop (given + 1 - (x2 : Int)).toNat, true, given + (k : Int) - (given + 1 - (x2 : Int))))
    (h0 : ¬ x2 = 0) (hA : (x2 : Int) ≤ given + 1) (hd : (given + 1 - (x2 : Int)).toNat = d) (hacc : acc.length = k) (hm : k - d = m) : recv given l = (acc.drop d, true, given + (m : Int)) := by
  rw [h, if_neg h0]
  by_cases hB : (x2 : Int) + (k : Int) ≤ given + 1
  · rw [if_pos (.inr hB), List.drop_eq_nil_of_le (by omega)]
    have : m = 0 := by omega
    rw [this]
    simp
  · rw [if_neg (by omega), hd]
    congr 2
    omega
theorem drop_snoc (acc : List ByteArray) (t : ByteArray) (d : Nat) : (acc ++ [t]).drop d = if d ≤ acc.length then acc.drop d ++ [t] else [] := by
  split
  · rw [List.drop_append_of_le_length (by assumption)]
  · rw [List.drop_eq_nil_of_le (by simp; omega)]

set_option maxHeartbeats 4000000 in
set_option maxRecDepth 100000 in
theorem rrcv (W : World) (B : Nat) (w : World) (b rb : Nat) (given : Int) (l : List Bool) (F : List Ent) (hw : HasRR W B w rb l 0 false (.st b [.int .i64 given] 88 :: F)) (hl : l.length ≤ 1000000000) (hg0 : 0 ≤ given) (hg1 : given ≤ 100000) :
    Calls Try.prog 37 #[.pointer (some ⟨b, 0, none⟩), .pointer (some ⟨rb, 0, none⟩)] w fun e' w' => ∃ v', e' = .returned (.tuple #[v', .bool (recv given l).2.1]) ∧
      Holds W B w' (.st b [.int .i64 (recv given l).2.2] 88 :: .rw v' 9 1 (recv given l).1.length (strs (recv given l).1) :: F) := by
  obtain ⟨i0, hi, hz0, hz1, hz2⟩ := info_parts info_str
  have hp := rrtake W B w rb l 0 false _ 3 hw (Nat.zero_le _) hl (by decide)
  have HP := Lib.hid hp
  rw [List.drop_zero] at HP
  have HL := Lib.hid hl
  have HG := Lib.hid (And.intro hg0 hg1)
  clear hp hw hl hg0 hg1
  go_enter Try.func37, Try.ntmps37
  go_wp2_with fail
  refine HP.out.mono ?_
  rintro e' w1 ⟨x, at1, fl1, rfl, h1, hat1, hx, ht1⟩
  have H1 := Lib.hid h1
  have HT1 := Lib.hid ht1
  have HAT1 := Lib.hid hat1
  have hx8 : x < 8 := hx
  obtain ⟨f1, f2, f3, _, f5⟩ := n_facts (x := x) (Nat.lt_trans hx8 (by decide))
  have HX8 := Lib.hid hx8
  clear h1 ht1 hat1 hx HP hx8
  by_cases hx0 : x = 0
  · have t0 : ((x : Int) == 0) = true := by rw [hx0]; rfl
    have HX0 := Lib.hid hx0
    obtain ⟨vr, h1⟩ := H1.out
    have E2 := cell_regrown (h1.cell 2 rfl)
    have HH := Lib.hid h1
    clear hx0 h1
    go_wp2_with fail
    refine wp_region_quiet_below (by kernel_rfl) (by kernel_rfl) ?_
    repeat (go_big_quiet_step (fail))
    refine wpQuiet_nil ?_
    intro _ hw'
    obtain ⟨⟨dq, osq⟩, hw''⟩ := hw'
    subst hw''
    have hbx := below_regrown w1 dq osq
    clear E2
    generalize grow (redrawn w1 dq) osq = w4 at *
    have h4 := Holds.belowed HH.out hbx
    have H4 := Lib.hid h4
    clear h4 hbx HH
    go_wp2_with fail
    refine bodyPost_ret (results_tmp2 rfl _ _ _) rfl ?_
    have h2 := (H4.out.tail.tail.nilrow 9 1).up1
    rcases HT1.out with ⟨e1, _, e3, e2⟩ | ⟨e1, _, e2⟩
    · have hl3 : 3 ≤ l.length := by have hat := HAT1.out; rw [e3] at hat; exact Nat.le_trans (Nat.le_add_left _ _) hat
      rw [recv_zero hl3 e2 HX0.out, e1]
      exact ⟨_, rfl, h2⟩
    · have hl3 : l.length < 3 := by
        rcases e2 with h | h
        · cases h
        · simpa using h
      rw [recv_short hl3, e1]
      exact ⟨_, rfl, h2⟩
  · have t0 : ((x : Int) == 0) = false := beq_eq_false_iff_ne.2 (by omega)
    have HX0 := Lib.hid hx0
    have hT : fl1 = false ∧ at1 = 3 ∧ (x : Int) = val (l.take 3) := by
      rcases HT1.out with ⟨e1, _, e3, e2⟩ | ⟨e1, e2, _⟩
      · exact ⟨e1, by simpa using e3, e2⟩
      · exact absurd e2 hx0
    obtain ⟨rfl, rfl, hxv⟩ := hT
    have HXV := Lib.hid hxv
    have hp := rrtake W B w1 rb l 3 false _ 32 H1.out HAT1.out HL.out (by decide)
    have HP := Lib.hid hp
    clear hp hx0 hxv HT1
    go_wp2_with fail
    refine HP.out.mono ?_
    rintro e' w2 ⟨x2, at2, fl2, rfl, h2, hat2, hx2, ht2⟩
    have hgot : Got x l 0 [] at2 fl2 := Got.start (by
      rcases ht2 with ⟨e1, _, e3, _⟩ | ⟨e1, _, e3⟩
      · exact .inl ⟨e1, e3, by rw [e3] at hat2; exact hat2⟩
      · right
        refine ⟨e1, ?_⟩
        rcases e3 with h | h
        · cases h
        · exact h)
    have HGOT := Lib.hid hgot
    have HT2 := Lib.hid ht2
    have HX2 := Lib.hid hx2
    obtain ⟨m1, m2, m3⟩ := x2_facts hx2
    obtain ⟨d, hd⟩ : ∃ d, (given + 1 - (x2 : Int)).toNat = d := ⟨_, rfl⟩
    have HD := Lib.hid hd
    obtain ⟨vr, h2⟩ := h2
    have h3 := h2.nilrow 9 1
    have H3 := Lib.hid (And.intro hat2 h3)
    clear h2 h3 hat2 hx2 ht2 hgot HP H1 hd
    go_wp2_with fail
    go_loopw [8, 9] (fun out i wr => ∃ (k : Nat) (acc : List ByteArray) (at_ : Nat) (fl : Bool) (vr : Value), k ≤ x ∧ i = .int .i64 k ∧ Got x l k acc at_ fl ∧ at_ ≤ l.length ∧
      Holds W B wr (.rw out 9 1 (k - d) (strs (acc.drop d)) :: .st rb [vr, .int .i64 (at_ : Int), .bool fl] 126 :: .rw vr 4 1 l.length (bools l) :: .st b [.int .i64 given] 88 :: F))
      (fun _ i _ => x - (intOf i).toNat)
    case atStart => exact ⟨0, [], at2, fl2, vr, Nat.zero_le _, rfl, HGOT.out, H3.out.1, by rw [Nat.zero_sub, List.drop_nil]; exact H3.out.2⟩
    case round =>
      obtain ⟨k, acc, at_, fl, vr, hk, rfl, hG, hat, hH⟩ := hrel
      clear H3 HGOT
      have HGT := Lib.hid hG
      have HAT := Lib.hid hat
      have HH := Lib.hid hH
      obtain ⟨A8, c8, rfl⟩ := hH.slice
      clear hG hat hH
      by_cases hkx : k < x
      · obtain ⟨k0, k1, k2, k3⟩ := loop_facts hkx (Nat.le_trans (Nat.le_of_lt HX8.out) (by decide))
        have HK2 := Lib.hid k2
        have hp := rrtake W B wr rb l at_ fl _ 6 ⟨vr, HH.out.perm perm2.symm⟩ HAT.out HL.out (by decide)
        have HP := Lib.hid hp
        clear hp k2 k3
        go_wp2_with fail
        refine HP.out.mono ?_
        rintro e' w3 ⟨kk, at3, fl3, rfl, h3, hat3, hkk, ht3⟩
        have hkk64 : kk < 64 := hkk
        obtain ⟨g1, g2, g3, _, g5⟩ := n_facts (x := kk) (Nat.lt_trans hkk64 (by decide))
        have H3 := Lib.hid h3
        have HT3 := Lib.hid ht3
        have HAT3 := Lib.hid hat3
        clear h3 ht3 hat3 hkk hkk64 HP
        have hbadd : ∀ (hb : ¬ (1 ≤ kk ∧ kk ≤ 60)), recv given l = ([], false, given) := fun hb => recv_none (three_le HAT1.out) HXV.out HX0.out (Got.bad HGT.out hkx hb (by
          rcases HT3.out with ⟨e1, e2, _, e4⟩ | ⟨e1, e2, e3⟩
          · exact .inl ⟨e1, e2, e4⟩
          · exact .inr ⟨e1, e2, e3⟩) HAT.out)
        have HBAD := Lib.hid hbadd
        clear hbadd
        by_cases hz : kk = 0
        · have HZ := Lib.hid hz
          subst hz
          rw [show ((0 : Nat) : Int) = 0 from rfl]
          go_wp2_with fail
          refine bodyPost_ret (results_tmp2 rfl _ _ _) rfl ?_
          rw [HBAD.out (by decide)]
          obtain ⟨vr3, h3⟩ := H3.out
          exact ⟨_, rfl, (h3.up2.tail.tail.tail.nilrow 9 1).up1⟩
        · obtain ⟨a1, a2, a3⟩ := lt1_facts hz
          by_cases hbig : 60 < kk
          · have a4 : decide ((60 : Int) < (kk : Int)) = true := decide_eq_true (Int.ofNat_lt.2 hbig)
            have a5 : (60 : Int) < (kk : Int) := Int.ofNat_lt.2 hbig
            have HBG := Lib.hid hbig
            clear hbig
            go_wp2_with fail
            refine bodyPost_ret (results_tmp2 rfl _ _ _) rfl ?_
            rw [HBAD.out (fun h => absurd h.2 (Nat.not_le_of_lt HBG.out))]
            obtain ⟨vr3, h3⟩ := H3.out
            exact ⟨_, rfl, (h3.up2.tail.tail.tail.nilrow 9 1).up1⟩
          · have a4 : decide ((60 : Int) < (kk : Int)) = false := decide_eq_false (fun h => hbig (Int.ofNat_lt.1 h))
            have a5 : ¬ (60 : Int) < (kk : Int) := fun h => hbig (Int.ofNat_lt.1 h)
            have HLI : Hid (1 ≤ kk ∧ kk ≤ 60) := ⟨Nat.pos_of_ne_zero hz, Nat.le_of_not_lt hbig⟩
            clear hbig
            go_upto_region 12 with (fail)
            clear a1 a2 a3 a4 a5 hz
            go_wp2_with fail
            have hT3 : fl3 = false ∧ fl = false ∧ at3 = at_ + 6 ∧ (kk : Int) = val ((l.drop at_).take 6) := by
              rcases HT3.out with ⟨e1, e2, e3, e4⟩ | ⟨e1, e2, _⟩
              · exact ⟨e1, e2, e3, e4⟩
              · exact absurd HLI.out.1 (by rw [e2]; decide)
            have HT4 := Lib.hid hT3
            obtain ⟨vr3, h3⟩ := H3.out
            have H4 := Lib.hid h3
            clear h3 hT3 H3
            go_loopw [11, 12] (fun s i wr => ∃ (j : Nat) (ys : List Int) (a5 : Nat) (fl5 : Bool) (v5 : Value), j ≤ kk ∧ i = .int .i64 j ∧ s = .string (strOfNums ys) ∧ ys.length = j ∧ a5 ≤ l.length ∧ ((fl5 = false ∧ a5 = at3 + 8 * j ∧ ys = chars j (l.drop at3)) ∨ (fl5 = true ∧ l.length < at3 + 8 * kk)) ∧
              Holds W B wr (.st rb [v5, .int .i64 (a5 : Int), .bool fl5] 126 :: .rw v5 4 1 l.length (bools l) :: .rw (.slice A8 (k - d) c8) 9 1 (k - d) (strs (acc.drop d)) :: .st b [.int .i64 given] 88 :: F))
              (fun _ i _ => kk - (intOf i).toNat)
            case atStart => exact ⟨0, [], at3, fl3, vr3, Nat.zero_le _, rfl, rfl, rfl, HAT3.out, .inl ⟨HT4.out.1, rfl, rfl⟩, H4.out⟩
            case round =>
              obtain ⟨j, ys, a5, fl5, v5, hj, rfl, rfl, hys, ha5, hC, hH⟩ := hrel
              clear H4
              have HYS := Lib.hid hys
              have HA5 := Lib.hid ha5
              have HC5 := Lib.hid hC
              have HHH := Lib.hid hH
              clear hys ha5 hC hH
              by_cases hjk : j < kk
              · obtain ⟨j0, j1, j2, j3⟩ := loop_facts hjk (Nat.le_trans HLI.out.2 (by decide))
                have HJ2 := Lib.hid j2
                have hp := rrtake W B wr rb l a5 fl5 _ 8 ⟨v5, HHH.out⟩ HA5.out HL.out (by decide)
                have HP := Lib.hid hp
                clear hp j2 j3
                go_wp2_with fail
                refine HP.out.mono ?_
                rintro e' w6 ⟨y, a6, fl6, rfl, h6, ha6, hy, ht6⟩
                obtain ⟨v6, h6⟩ := h6
                obtain ⟨y1, y2⟩ := y_facts (x := y) hy
                have hcv : (convert 25 9 (.slice (some ⟨w6.heap.size, 0, none⟩) 1 1)).run Try.prog (w6.alloc (.cells #[.int .u8 (y : Int)] 5)) = .ok (.string (strOfNums [(y : Int)])) (w6.alloc (.cells #[.int .u8 (y : Int)] 5)) :=
                  run_convert_bytes_arg (P := Try.prog) _ 25 5 Try.underlying25 Try.underlying5 w6.heap.size 0 1 1 [(y : Int)] rfl (fun i hi => by
                    obtain rfl : i = 0 := by omega
                    exact cell_one_new' w6 #[.int .u8 (y : Int)] 5 0 _ rfl) _ Try.underlying9
                have H6 := Lib.hid h6
                have HA6 := Lib.hid ha6
                have HT6 := Lib.hid ht6
                clear h6 ha6 hy ht6 HP
                go_wp2_with fail
                · rename_i hno
                  exact (sum_no HYS.out hjk HLI.out.2 hno).elim
                · try rw [HJ2.out]
                  rw [strOf_snoc]
                  exact ⟨⟨j + 1, ys ++ [(y : Int)], a6, fl6, v6, hjk, cast_succ j, rfl, by rw [List.length_append, HYS.out]; rfl, HA6.out, chars_nextR HC5.out HT6.out hjk, H6.out.alloc' _⟩, succ_less hjk⟩
              · obtain rfl : j = kk := Nat.le_antisymm hj (Nat.le_of_not_lt hjk)
                have hgn := Got.next (ys := ys) HGT.out hkx HLI.out ⟨HT4.out.1, HT4.out.2.1, HT4.out.2.2.2, by rw [← HT4.out.2.2.1]; exact HAT3.out⟩ HA5.out (by rw [← HT4.out.2.2.1]; exact HC5.out)
                have HGN := Lib.hid hgn
                have hacc : acc.length = k := HGT.out.1
                have HACC := Lib.hid hacc
                have cb := HHH.out.up3.cell 0 rfl
                obtain ⟨n1, n2⟩ := first_i HX2.out (Nat.lt_trans hkx HX8.out)
                have h8 := HHH.out.up2
                have H8 := Lib.hid h8
                clear hgn hacc HHH
                by_cases hkp : d ≤ k
                · have hkeep : given < (x2 : Int) + (k : Int) := keep_iff HD.out hkp HG.out
                  have t9 : decide (given < (x2 : Int) + (k : Int)) = true := decide_eq_true hkeep
                  have hown := h8.own
                  have HKP := Lib.hid hkp
                  have HC1 : Hid (k - d + 1 ≤ maxLen) := fb_max (Nat.lt_of_le_of_lt (Nat.sub_le _ _) (Nat.lt_trans hkx HX8.out))
                  have HC2 : Hid ((k - d + 1) * 16 ≤ 140737488355328) := fb_sz (Nat.lt_of_le_of_lt (Nat.sub_le _ _) (Nat.lt_trans hkx HX8.out))
                  clear h8 hkp
                  go_wp2_with (at_builtin; refine wpList_append_own_at _ rfl (.tmp 60) (.tmp 62) 63 rfl B 9 i0 (.string ByteArray.empty) 1 16 Try.underlying63 hi hz0 hz1 hz2 rfl (by decide) _ _ _ rfl (hown.alloc _) ⟨wr.heap.size, 0, none⟩ 1 1 [.string (strOfNums ys)] rfl rfl (cell_one_new _ _ _) ?c2 HC1.out HC2.out ?c5 ?_)
                  case c2 => intro u hu; simp at hu; subst hu; rfl
                  case c5 => exact le_al H8.out.size _
                  intro v9 w9 ho hg _ hat
                  have h9 := (H8.out.alloc' _).grew ho hg (hat.imp (fun h => h) (fun h => ⟨_, h, by simp⟩))
                  have H9 := Lib.hid h9
                  clear ho hg hat hown h9 H8 hkeep t9 n1 n2 cb
                  go_wp2_with fail
                  try rw [HK2.out]
                  refine ⟨⟨k + 1, acc ++ [strOfNums ys], a5, fl5, v5, hkx, cast_succ k, HGN.out, HA5.out, ?_⟩, succ_less hkx⟩
                  rw [drop_snoc, if_pos (by rw [HACC.out]; exact HKP.out), strs_append, Nat.succ_sub HKP.out]
                  exact H9.out
                · have hkeep : ¬ given < (x2 : Int) + (k : Int) := keep_not HD.out hkp
                  have t9 : decide (given < (x2 : Int) + (k : Int)) = false := decide_eq_false hkeep
                  have HKP := Lib.hid hkp
                  clear h8 hkp
                  go_wp2_with fail
                  clear hkeep t9 n1 n2 cb
                  try rw [HK2.out]
                  refine ⟨⟨k + 1, acc ++ [strOfNums ys], a5, fl5, v5, hkx, cast_succ k, HGN.out, HA5.out, ?_⟩, succ_less hkx⟩
                  have h9 := H8.out
                  have e1 : k - d = 0 := Nat.sub_eq_zero_of_le (Nat.le_of_lt (Nat.lt_of_not_le HKP.out))
                  have e2 : k + 1 - d = 0 := Nat.sub_eq_zero_of_le (Nat.lt_of_not_le HKP.out)
                  rw [drop_snoc, if_neg (by rw [HACC.out]; exact HKP.out), e2]
                  rw [List.drop_eq_nil_of_le (by rw [HACC.out]; exact Nat.le_of_lt (Nat.lt_of_not_le HKP.out)), e1] at h9
                  rw [e1]
                  exact h9
      · obtain rfl : k = x := Nat.le_antisymm hk (Nat.le_of_not_lt hkx)
        have hdn := Got.done HGT.out
        have hacc : acc.length = k := HGT.out.1
        have HACC := Lib.hid hacc
        have cr := HH.out.up1.cell 2 rfl
        have cb := HH.out.up3.cell 0 rfl
        have fb := HH.out.up3.frozen 0
        clear hacc
        rcases hdn with ⟨rfl, hls⟩ | ⟨rfl, hnone⟩
        · have h35 : ¬ l.length < 35 := fun h => by unfold linesOf at hls; rw [if_pos h] at hls; cases hls
          have hx2v : (x2 : Int) = val ((l.drop 3).take 32) := by
            rcases HT2.out with ⟨_, _, _, e4⟩ | ⟨_, _, e3⟩
            · exact e4
            · rcases e3 with h | h
              · cases h
              · exact absurd h h35
          have hrv := fun given => recv_first (given := given) (three_le HAT1.out) HXV.out HX0.out hls hx2v
          have HRV := Lib.hid hrv
          clear hls h35 hx2v hrv
          by_cases hx20 : x2 = 0
          · have HX20 := Lib.hid hx20
            have t2 : ((x2 : Int) == 0) = true := by rw [hx20]; rfl
            clear hx20
            go_wp2_with fail
            refine bodyPost_ret (results_tmp2 rfl _ _ _) rfl ?_
            rw [HRV.out, if_pos HX20.out]
            exact ⟨_, rfl, (HH.out.tail.tail.tail.nilrow 9 1).up1⟩
          · have HX20 := Lib.hid hx20
            have t2 : ((x2 : Int) == 0) = false := ne_zero_beq hx20
            obtain ⟨u1, u2⟩ := given1 HG.out
            clear hx20
            by_cases hA : given + 1 < (x2 : Int)
            · have t3 : decide (given + 1 < (x2 : Int)) = true := decide_eq_true hA
              have HA := Lib.hid hA
              go_wp2_with fail
              refine bodyPost_ret (results_tmp2 rfl _ _ _) rfl ?_
              rw [HRV.out, if_neg HX20.out, if_pos (.inl HA.out)]
              exact ⟨_, rfl, (HH.out.tail.tail.tail.nilrow 9 1).up1⟩
            · have t3 : decide (given + 1 < (x2 : Int)) = false := decide_eq_false hA
              have hA2 : (x2 : Int) ≤ given + 1 := Int.not_lt.1 hA
              have HA := Lib.hid hA2
              obtain ⟨m, hm, v1, v2⟩ := given_m (k := k) (d := d) HG.out HX8.out
              rw [hm] at HH ⊢
              have HM := Lib.hid hm
              clear hA2 hm
              go_wp2_with fail
              refine bodyPost_ret (results_tmp2 rfl _ _ _) rfl ?_
              have h9 := ((HH.out.up3.set 0 (.int .i64 (given + (m : Int)))).up2.tail).up2.tail
              have hfin := recv_end HRV.out HX20.out HA.out HD.out HACC.out HM.out
              rw [hfin]
              refine ⟨_, rfl, ?_⟩
              dsimp only
              rw [List.length_drop, HACC.out, HM.out]
              exact h9
        · have HN := Lib.hid hnone
          clear hnone
          go_wp2_with fail
          refine bodyPost_ret (results_tmp2 rfl _ _ _) rfl ?_
          rw [recv_none (three_le HAT1.out) HXV.out HX0.out HN.out]
          exact ⟨_, rfl, (HH.out.tail.tail.tail.nilrow 9 1).up1⟩

end Go.Proofs.Ytpnnalkihcemhaa.Str
