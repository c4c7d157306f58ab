/- A receiver of lines: what Take takes, of whatever bytes. -/
import Derived.Test.YtpnnalkihcemhaaRcvP
import Derived.Test.YtpnnalkihcemhaaStrConf
import Derived.Laws.OwnMore
set_option linter.unusedVariables false
set_option linter.unusedSimpArgs false
namespace Go.Proofs.Ytpnnalkihcemhaa.Str
open Go.Sort Go.RowKit Go.Proofs.Ytpnnalkihcemhaa.Mem Go.Proofs.Ytpnnalkihcemhaa.Bits Go.Proofs.Ytpnnalkihcemhaa.Wr Go.Proofs.Ytpnnalkihcemhaa.Num Go.Proofs.Ytpnnalkihcemhaa.Step Go.Proofs.YtpnnalkihcemhaaW.PrintWords

theorem mkbytes (k : Nat) (hk : k ≤ 60) : ∃ zs : Array Value, zs.toList = nums .u8 (List.replicate k 0) ∧ ∀ w, (Instr.makeSlice 25 (.int .i64 (k : Int)) (.int .i64 (k : Int))).run Try.prog w = .ok (.slice (some ⟨w.heap.size, 0, none⟩) k k) (w.alloc (.cells zs 5)) := by
  obtain ⟨i0, hi, hz0, hz1, hz2⟩ := info_parts info_u8
  refine ⟨madeCells (Value.int .u8 0).cells k, ?_, fun w => ?_⟩
  · show (madeCells #[Value.int .u8 0] k).toList = _
    rw [toList_madeCells_one, nums, List.map_replicate]
  · have := run_make (P := Try.prog) w 25 5 i0 (.int .u8 0) Try.underlying25 hi hz0 .i64 .i64 (k : Int) (k : Int) (by omega) (by omega) (by rw [hz2]; omega) (by omega)
    rw [hz1, Int.toNat_natCast, Nat.mul_one] at this
    exact this

theorem n_facts {x : Nat} (h : x < 1000) : IntKind.i64.wrap (x : Int) = (x : Int) ∧ wrap64 (x : Int) = (x : Int) ∧ IntKind.u64.wrap (x : Int) = (x : Int) ∧ IntKind.u8.wrap (x : Int) = (x : Int) % 256 ∧ (x : Int) % 18446744073709551616 = (x : Int) := by
  rw [wrap_i64, wrap_u64, wrap_u8]; unfold wrap64; omega
theorem y_facts {x : Nat} (h : x < 256) : IntKind.u8.wrap (x : Int) = (x : Int) ∧ (x : Int) % 256 = (x : Int) := by rw [wrap_u8]; omega

theorem num_get8 {bs : List Int} {x : Nat} (h : x < bs.length) : (nums .u8 bs)[x]? = some (.int .u8 (bs[x]?.getD 0)) := by
  rw [nums, List.getElem?_map, List.getElem?_eq_getElem h]
  rfl
theorem nums_set (ys : List Int) (j : Nat) (y : Int) : nums .u8 (ys.set j y) = (nums .u8 ys).set j (.int .u8 y) := by simp [nums, List.map_set]
theorem le60 {k : Nat} (h : k ≤ 60) : k ≤ maxLen := by unfold maxLen; omega
theorem le_al {w : World} {B : Nat} (h : B ≤ w.heap.size) (o : Obj) : B ≤ (w.alloc o).heap.size := by simp; omega
theorem fb_max {k : Nat} (h : k < 8) : k + 1 ≤ maxLen := by unfold maxLen; omega
theorem fb_sz {k : Nat} (h : k < 8) : (k + 1) * 16 ≤ 140737488355328 := by omega
theorem chars_next {Bt : List Bool} {L8 a5 a6 at3 j kk y : Nat} {fl5 fl6 : Bool} {ys : List Int} (hl : Bt.length = 8 * L8) (hC : (fl5 = false ∧ a5 = at3 + 8 * j ∧ ys.take j = chars j (Bt.drop at3)) ∨ (fl5 = true ∧ Bt.length < at3 + 8 * kk))
    (hT : (fl6 = false ∧ fl5 = false ∧ a6 = a5 + 8 ∧ (y : Int) = val ((Bt.drop a5).take 8)) ∨ (fl6 = true ∧ y = 0 ∧ (fl5 = true ∨ 8 * L8 < a5 + 8))) (hj : j < kk) (hys : ys.length = kk) :
    (fl6 = false ∧ a6 = at3 + 8 * (j + 1) ∧ (ys.set j (y : Int)).take (j + 1) = chars (j + 1) (Bt.drop at3)) ∨ (fl6 = true ∧ Bt.length < at3 + 8 * kk) := by
  rcases hT with ⟨e1, e2, e3, e4⟩ | ⟨e1, _, e3⟩
  · rcases hC with ⟨_, c2, c3⟩ | ⟨c1, _⟩
    · left
      refine ⟨e1, by omega, ?_⟩
      rw [List.take_add_one, List.take_set_of_le (Nat.le_refl j), c3, chars_succ, List.getElem?_set_self (by omega), List.drop_drop, ← c2, ← e4]
      rfl
    · rw [c1] at e2; cases e2
  · right
    refine ⟨e1, ?_⟩
    rcases hC with ⟨c1, c2, _⟩ | ⟨_, c2⟩
    · rcases e3 with h | h
      · rw [c1] at h; cases h
      · omega
    · exact c2
theorem chars_done {Bt : List Bool} {a5 at3 at_ kk : Nat} {fl5 : Bool} {ys : List Int} (hC : (fl5 = false ∧ a5 = at3 + 8 * kk ∧ ys.take kk = chars kk (Bt.drop at3)) ∨ (fl5 = true ∧ Bt.length < at3 + 8 * kk)) (h3 : at3 = at_ + 6) (hys : ys.length = kk) :
    (fl5 = false ∧ a5 = at_ + 6 + 8 * kk ∧ ys = chars kk (Bt.drop (at_ + 6))) ∨ (fl5 = true ∧ Bt.length < at_ + 6 + 8 * kk) := by
  subst h3
  rcases hC with ⟨c1, c2, c3⟩ | h
  · left
    rw [List.take_of_length_le (by omega)] at c3
    exact ⟨c1, c2, c3⟩
  · exact .inr h
theorem first_facts {given : Int} {x2 k : Nat} (hg : 0 ≤ given ∧ given ≤ 100000) (h2 : x2 < 2 ^ 32) (hk : k < 8) :
    IntKind.u64.wrap given = given ∧ given % 18446744073709551616 = given ∧ IntKind.u64.wrap (given + 1) = given + 1 ∧ (given + 1) % 18446744073709551616 = given + 1 ∧ IntKind.u64.wrap ((x2 : Int) + (k : Int)) = (x2 : Int) + (k : Int) ∧ ((x2 : Int) + (k : Int)) % 18446744073709551616 = (x2 : Int) + (k : Int) ∧ IntKind.u64.wrap (x2 : Int) = (x2 : Int) ∧ (x2 : Int) % 18446744073709551616 = (x2 : Int) := by
  simp only [wrap_u64]; omega
theorem cut_facts {given : Int} {x2 k c : Nat} (hg : 0 ≤ given ∧ given ≤ 100000) (h2 : x2 < 2 ^ 32) (hk : k < 8) (hA : ¬ given + 1 < (x2 : Int)) (hB : ¬ (x2 : Int) + (k : Int) ≤ given + 1) (hc : k ≤ c) :
    ∃ d m : Nat, given + 1 - (x2 : Int) = (d : Int) ∧ IntKind.u64.wrap (given + 1 - (x2 : Int)) = (d : Int) ∧ (0 : Int) ≤ (d : Int) ∧ (d : Int) ≤ (k : Int) ∧ (k : Int) ≤ (c : Int) ∧ ¬ c = d ∧ k - d = m ∧ IntKind.u32.wrap (m : Int) = (m : Int) ∧ (m : Int) % 4294967296 = (m : Int) ∧ IntKind.u32.wrap (given + (m : Int)) = given + (m : Int) ∧ (given + (m : Int)) % 4294967296 = given + (m : Int) ∧
      d < k ∧ d < c ∧ given + (k : Int) - (given + 1 - (x2 : Int)) = given + (m : Int) := by
  obtain ⟨d, hd⟩ : ∃ d : Nat, given + 1 - (x2 : Int) = (d : Int) := ⟨(given + 1 - (x2 : Int)).toNat, by omega⟩
  have hdk : d < k := by omega
  refine ⟨d, k - d, hd, ?_, by omega, by omega, by omega, by omega, rfl, ?_, by omega, ?_, by omega, hdk, by omega, by omega⟩
  · rw [hd, wrap_u64]; omega
  · rw [wrap_u32]; omega
  · rw [wrap_u32]; omega
theorem nb {given : Int} {x2 k : Nat} (h1 : (x2 : Int) ≤ given + 1) (h2 : given + 1 < (x2 : Int) + (k : Int)) : ¬ (given + 1 < (x2 : Int) ∨ (x2 : Int) + (k : Int) ≤ given + 1) := by omega
theorem cut_toNat {given : Int} {x2 d : Nat} (h : given + 1 - (x2 : Int) = (d : Int)) : (given + 1 - (x2 : Int)).toNat = d := by omega
theorem q_of_row {W w : World} {B : Nat} {F : List Ent} {v : Value} {e : TypeId} {n : Nat} {xs : List Value} (h : Holds W B w (.rw v e 1 n xs :: F)) : Holds W B w (.qu v e xs :: F) :=
  h.step ⟨rfl, rfl, rfl, Nat.le_refl _, fun _ _ _ => rfl⟩ (ownsQ_row h.own) (fun k hk => .inl hk)
theorem row_cut {W w : World} {B : Nat} {F : List Ent} {e : TypeId} {acc : List ByteArray} {g k c d : Nat} (h : Holds W B w (.rw (.slice (some ⟨g, 0, none⟩) k c) e 1 k (strs acc) :: F)) (hk : acc.length = k) (hd : d < k) (hc : d < c) :
    Holds W B w (.qu (.slice (some ⟨g, d, none⟩) (k - d) (c - d)) e (strs (acc.drop d)) :: F) := by
  subst hk
  have h1 := scut (q_of_row h) (Nat.le_of_lt hd) hc
  rwa [Nat.zero_add] at h1
theorem recv_short {given : Int} {Bt : List Bool} (h : Bt.length < 3) : recv given Bt = ([], false, given) := by unfold recv; rw [if_pos h]
theorem recv_zero {given : Int} {Bt : List Bool} {x : Nat} (h : 3 ≤ Bt.length) (hx : (x : Int) = val (Bt.take 3)) (h0 : x = 0) : recv given Bt = ([], true, given) := by
  unfold recv; rw [if_neg (by omega), if_pos (by omega)]
theorem recv_none {given : Int} {Bt : List Bool} {x : Nat} (h : 3 ≤ Bt.length) (hx : (x : Int) = val (Bt.take 3)) (h0 : x ≠ 0) (hl : linesOf x Bt = none) : recv given Bt = ([], false, given) := by
  have e : (val (Bt.take 3)).toNat = x := by omega
  unfold recv; rw [if_neg (by omega), e, if_neg h0, hl]
theorem recv_first {given : Int} {Bt : List Bool} {x x2 : Nat} {ls : List ByteArray} (h : 3 ≤ Bt.length) (hx : (x : Int) = val (Bt.take 3)) (h0 : x ≠ 0) (hl : linesOf x Bt = some ls) (h2 : (x2 : Int) = val ((Bt.drop 3).take 32)) :
    recv given Bt = if x2 = 0 then ([], false, given) else if given + 1 < (x2 : Int) ∨ (x2 : Int) + (x : Int) ≤ given + 1 then ([], true, given) else (ls.drop (given + 1 - (x2 : Int)).toNat, true, given + (x : Int) - (given + 1 - (x2 : Int))) := by
  have e : (val (Bt.take 3)).toNat = x := by omega
  unfold recv; rw [if_neg (by omega), e, if_neg h0, hl]
  simp only [← h2]
  by_cases hz : x2 = 0
  · rw [if_pos hz, if_pos (by omega)]
  · rw [if_neg hz, if_neg (by omega)]

set_option maxHeartbeats 4000000 in
set_option maxRecDepth 100000 in
theorem rcv (W : World) (B : Nat) (w : World) (b rb : Nat) (given : Int) (bs : List Int) (F : List Ent) (hw : HasR W B w rb 124 bs 0 false (.st b [.int .u32 given] 85 :: F)) (hb : bytesOk bs) (hg0 : 0 ≤ given) (hg1 : given ≤ 100000) :
    Calls Try.prog 35 #[.pointer (some ⟨b, 0, none⟩), .pointer (some ⟨rb, 0, none⟩)] w fun e' w' => ∃ v', e' = .returned (.tuple #[v', .bool (recv given (bitsB bs)).2.1]) ∧
      Holds W B w' (.st b [.int .u32 (recv given (bitsB bs)).2.2] 85 :: .qu v' 9 (strs (recv given (bitsB bs)).1) :: F) := by
  obtain ⟨i0, hi, hz0, hz1, hz2⟩ := info_parts info_str
  have hp := rtake_any W B w rb _ bs 0 false _ 3 hw hb (Nat.zero_le _) (by decide)
  have HP := Lib.hid hp
  have hBl := bitsB_length bs
  rw [List.drop_zero] at HP
  obtain ⟨Bt, hBt⟩ : ∃ Bt, bitsB bs = Bt := ⟨_, rfl⟩
  rw [hBt] at HP hBl ⊢
  have HBT := Lib.hid hBt
  have HBL := Lib.hid hBl
  have HB := Lib.hid hb
  have HG := Lib.hid (And.intro hg0 hg1)
  clear hp hw hBt hBl hb hg0 hg1
  go_enter Try.func35, Try.ntmps35
  go_wp2_with fail
  refine HP.out.mono ?_
  rintro e' w1 ⟨x, at1, fl1, rfl, h1, hat1, hx, ht1⟩
  have H1 := Lib.hid h1
  have HT1 := Lib.hid ht1
  have HAT1 := Lib.hid hat1
  have hx8 : x < 8 := hx
  obtain ⟨f1, f2, f3, _, f5⟩ := n_facts (x := x) (Nat.lt_trans hx8 (by decide))
  have HX8 := Lib.hid hx8
  clear h1 ht1 hat1 hx HP hx8
  by_cases hx0 : x = 0
  · have t0 : ((x : Int) == 0) = true := by rw [hx0]; rfl
    have HX0 := Lib.hid hx0
    have hok := rok W B w1 rb _ bs at1 fl1 _ H1.out
    have HOK := Lib.hid hok
    clear hok hx0
    go_wp2_with fail
    refine HOK.out.mono ?_
    rintro e' w2 ⟨rfl, rfl⟩
    go_wp2_with fail
    refine bodyPost_ret (results_tmp2 rfl _ _ _) rfl ?_
    obtain ⟨vr, h1⟩ := H1.out
    have h2 := (h1.tail.tail.nilqu 9).up1
    rcases HT1.out with ⟨e1, _, _, e2⟩ | ⟨e1, _, e2⟩
    · have hl3 : 3 ≤ Bt.length := by
        by_cases h : 3 ≤ Bt.length
        · exact h
        · have hat := HAT1.out
          have := HBL.out
          omega
      rw [recv_zero hl3 e2 HX0.out, e1]
      exact ⟨_, rfl, h2⟩
    · have hl3 : Bt.length < 3 := by
        have := HBL.out
        rcases e2 with h | h
        · cases h
        · omega
      rw [recv_short hl3, e1]
      exact ⟨_, rfl, h2⟩
  · have t0 : ((x : Int) == 0) = false := beq_eq_false_iff_ne.2 (by omega)
    have HX0 := Lib.hid hx0
    have hT : fl1 = false ∧ at1 = 3 ∧ (x : Int) = val (Bt.take 3) := by
      rcases HT1.out with ⟨e1, _, e3, e2⟩ | ⟨e1, e2, _⟩
      · exact ⟨e1, by omega, e2⟩
      · exact absurd e2 hx0
    obtain ⟨rfl, rfl, hxv⟩ := hT
    have hl3 : 3 ≤ Bt.length := by have := HAT1.out; have := HBL.out; omega
    have HXV := Lib.hid hxv
    have HL3 := Lib.hid hl3
    have hp := rtake_any W B w1 rb _ bs 3 false _ 32 H1.out HB.out HAT1.out (by decide)
    rw [HBT.out] at hp
    have HP := Lib.hid hp
    clear hp hx0 hxv hl3 HT1
    go_wp2_with fail
    refine HP.out.mono ?_
    rintro e' w2 ⟨x2, at2, fl2, rfl, h2, hat2, hx2, ht2⟩
    have hgot : Got x Bt 0 [] at2 fl2 := Got.start (by
      have hbl := HBL.out
      rcases ht2 with ⟨e1, _, e3, _⟩ | ⟨e1, _, e3⟩
      · exact .inl ⟨e1, by omega, by omega⟩
      · right
        refine ⟨e1, ?_⟩
        rcases e3 with h | h
        · cases h
        · omega)
    have HGOT := Lib.hid hgot
    have HT2 := Lib.hid ht2
    have HX2 := Lib.hid hx2
    obtain ⟨vr, h2⟩ := h2
    have h3 := h2.nilrow 9 1
    have H3 := Lib.hid (And.intro hat2 h3)
    clear h2 h3 hat2 hx2 ht2 hgot HP H1
    go_wp2_with fail
    go_loopw [8, 26] (fun all i wr => ∃ (k : Nat) (acc : List ByteArray) (at_ : Nat) (fl : Bool) (vr : Value), k ≤ x ∧ i = .int .i64 k ∧ Got x Bt k acc at_ fl ∧ at_ ≤ 8 * bs.length ∧
      Holds W B wr (.rw all 9 1 k (strs acc) :: .st rb [vr, .int .i64 (at_ : Int), .bool fl] 124 :: .rw vr 5 1 bs.length (nums .u8 bs) :: .st b [.int .u32 given] 85 :: F))
      (fun _ i _ => x - (intOf i).toNat)
    case atStart => exact ⟨0, [], at2, fl2, vr, Nat.zero_le _, rfl, HGOT.out, H3.out.1, H3.out.2⟩
    case round =>
      obtain ⟨k, acc, at_, fl, vr, hk, rfl, hG, hat, hH⟩ := hrel
      clear H3 HGOT
      have HGT := Lib.hid hG
      have HAT := Lib.hid hat
      have HH := Lib.hid hH
      obtain ⟨A8, c8, rfl⟩ := hH.slice
      clear hG hat hH
      by_cases hkx : k < x
      · obtain ⟨k0, k1, k2, k3⟩ := loop_facts hkx (Nat.le_trans (Nat.le_of_lt HX8.out) (by decide))
        have HK2 := Lib.hid k2
        have hp := rtake_any W B wr rb _ bs at_ fl _ 6 ⟨vr, HH.out.perm perm2.symm⟩ HB.out HAT.out (by decide)
        rw [HBT.out] at hp
        have HP := Lib.hid hp
        clear hp k2 k3
        go_wp2_with fail
        refine HP.out.mono ?_
        rintro e' w3 ⟨kk, at3, fl3, rfl, h3, hat3, hkk, ht3⟩
        have hkk64 : kk < 64 := hkk
        obtain ⟨g1, g2, g3, _, g5⟩ := n_facts (x := kk) (Nat.lt_trans hkk64 (by decide))
        have H3 := Lib.hid h3
        have HT3 := Lib.hid ht3
        have HAT3 := Lib.hid hat3
        clear h3 ht3 hat3 hkk hkk64 HP
        by_cases hline : 1 ≤ kk ∧ kk ≤ 60
        · have hd : decide (1 ≤ kk ∧ kk ≤ 60) = true := decide_eq_true hline
          have HD := Lib.hid hd
          have HLI := Lib.hid hline
          clear hd hline
          go_wp2_with fail
          refine (sline _ kk).mono ?_
          rw [HD.out]
          rintro e' w4 ⟨rfl, rfl⟩
          obtain ⟨zs, hzs, hmk⟩ := mkbytes kk HLI.out.2
          have HZS := Lib.hid hzs
          clear hzs
          have hT3 : fl3 = false ∧ fl = false ∧ at3 = at_ + 6 ∧ (kk : Int) = val ((Bt.drop at_).take 6) := by
            rcases HT3.out with ⟨e1, e2, e3, e4⟩ | ⟨e1, e2, _⟩
            · exact ⟨e1, e2, e3, e4⟩
            · exact absurd HLI.out.1 (by rw [e2]; decide)
          obtain ⟨vr3, h3⟩ := H3.out
          have h4 := h3.mkrow zs.toList 5 1 kk (by rw [HZS.out, nums_length, List.length_replicate, Nat.mul_one]) (le60 HLI.out.2)
          rw [Array.toArray_toList, HZS.out] at h4
          have H4 := Lib.hid h4
          have HT4 := Lib.hid hT3
          clear h3 h4 hT3 H3
          go_wp2_with fail
          clear hmk
          obtain ⟨gt, hgt⟩ : ∃ gt, w4.heap.size = gt := ⟨_, rfl⟩
          rw [hgt] at H4 ⊢
          clear hgt
          go_loopw [38] (fun i wr => ∃ (j : Nat) (ys : List Int) (a5 : Nat) (fl5 : Bool) (v5 : Value), j ≤ kk ∧ i = .int .i64 j ∧ ys.length = kk ∧ a5 ≤ 8 * bs.length ∧ ((fl5 = false ∧ a5 = at3 + 8 * j ∧ ys.take j = chars j (Bt.drop at3)) ∨ (fl5 = true ∧ Bt.length < at3 + 8 * kk)) ∧
            Holds W B wr (.rw (.slice (some ⟨gt, 0, none⟩) kk kk) 5 1 kk (nums .u8 ys) :: .st rb [v5, .int .i64 (a5 : Int), .bool fl5] 124 :: .rw v5 5 1 bs.length (nums .u8 bs) :: .rw (.slice A8 k c8) 9 1 k (strs acc) :: .st b [.int .u32 given] 85 :: F))
            (fun i _ => kk - (intOf i).toNat)
          case atStart => exact ⟨0, _, at3, fl3, vr3, Nat.zero_le _, rfl, List.length_replicate, HAT3.out, .inl ⟨HT4.out.1, rfl, rfl⟩, H4.out⟩
          case round =>
            obtain ⟨j, ys, a5, fl5, v5, hj, rfl, hys, ha5, hC, hH⟩ := hrel
            clear H4
            have HYS := Lib.hid hys
            have HA5 := Lib.hid ha5
            have HC5 := Lib.hid hC
            have HHH := Lib.hid hH
            clear hys ha5 hC hH
            by_cases hjk : j < kk
            · obtain ⟨j0, j1, j2, j3⟩ := loop_facts hjk (Nat.le_trans HLI.out.2 (by decide))
              have HJ2 := Lib.hid j2
              have hp := rtake_any W B wr rb _ bs a5 fl5 _ 8 ⟨v5, HHH.out.perm perm2.symm⟩ HB.out HA5.out (by decide)
              rw [HBT.out] at hp
              have HP := Lib.hid hp
              clear hp j2 j3
              go_wp2_with fail
              refine HP.out.mono ?_
              rintro e' w6 ⟨y, a6, fl6, rfl, h6, ha6, hy, ht6⟩
              obtain ⟨v6, h6⟩ := h6
              have cj := (h6.up2.rcell j (by rw [Nat.mul_one]; exact hjk)).trans (num_get8 (bs := ys) (x := j) (by rw [HYS.out]; exact hjk))
              have fj := h6.up2.rfrozen j
              obtain ⟨y1, y2⟩ := y_facts (x := y) hy
              have H6 := Lib.hid h6
              have HA6 := Lib.hid ha6
              have HT6 := Lib.hid ht6
              clear h6 ha6 hy ht6 HP
              go_wp2_with fail
              clear cj fj y1 y2
              try rw [HJ2.out]
              have h7 := H6.out.up2.rset j (.int .u8 (y : Int))
              rw [← nums_set] at h7
              refine ⟨⟨j + 1, ys.set j (y : Int), a6, fl6, v6, hjk, cast_succ j, by rw [List.length_set]; exact HYS.out, HA6.out, chars_next HBL.out HC5.out HT6.out hjk HYS.out, ?_⟩, succ_less hjk⟩
              exact h7
            · obtain rfl : j = kk := Nat.le_antisymm hj (Nat.le_of_not_lt hjk)
              have hcv : (convert 25 9 (.slice (some ⟨gt, 0, none⟩) j j)).run Try.prog wr = .ok (.string (strOfNums ys)) wr :=
                run_convert_bytes_arg (P := Try.prog) wr 25 5 Try.underlying25 Try.underlying5 gt 0 j j ys HYS.out (fun i hi => by
                  have := (HHH.out.rcell i (by rw [Nat.mul_one]; exact hi)).trans (num_get8 (bs := ys) (x := i) (by rw [HYS.out]; exact hi))
                  rw [Nat.zero_add, List.getD_eq_getElem?_getD]
                  exact this) _ Try.underlying9
              have h8 : Holds W B wr (.rw (.slice A8 k c8) 9 1 k (strs acc) :: .st rb [v5, .int .i64 (a5 : Int), .bool fl5] 124 :: .rw v5 5 1 bs.length (nums .u8 bs) :: .st b [.int .u32 given] 85 :: F) := HHH.out.tail.up2
              have hown := h8.own
              have H8 := Lib.hid h8
              have HC1 : Hid (k + 1 ≤ maxLen) := fb_max (Nat.lt_trans hkx HX8.out)
              have HC2 : Hid ((k + 1) * 16 ≤ 140737488355328) := fb_sz (Nat.lt_trans hkx HX8.out)
              clear h8 HHH
              go_wp2_with (at_builtin; refine wpList_append_own_at _ rfl (.tmp 48) (.tmp 51) 63 rfl B 9 i0 (.string ByteArray.empty) 1 16 Try.underlying63 hi hz0 hz1 hz2 rfl (by decide) _ _ _ rfl (hown.alloc _) ⟨wr.heap.size, 0, none⟩ 1 1 [.string (strOfNums ys)] rfl rfl (cell_one_new _ _ _) ?c2 HC1.out HC2.out ?c5 ?_)
              case c2 => intro u hu; simp at hu; subst hu; rfl
              case c5 => exact le_al H8.out.size _
              intro v9 w9 ho hg _ hat
              have h9 := (H8.out.alloc' _).grew ho hg (hat.imp (fun h => h) (fun h => ⟨_, h, by simp⟩))
              have H9 := Lib.hid h9
              clear ho hg hat hown h9 H8 hcv
              go_wp2_with fail
              try rw [HK2.out]
              have hbl := HBL.out
              have hgn := Got.next (ys := ys) HGT.out hkx HLI.out ⟨HT4.out.1, HT4.out.2.1, HT4.out.2.2.2, by rw [hbl, ← HT4.out.2.2.1]; exact HAT3.out⟩ (by rw [hbl]; exact HA5.out)
                (chars_done HC5.out HT4.out.2.2.1 HYS.out)
              refine ⟨⟨k + 1, acc ++ [strOfNums ys], a5, fl5, v5, hkx, cast_succ k, hgn, HA5.out, ?_⟩, succ_less hkx⟩
              rw [strs_append]
              exact H9.out
        · have hd : decide (1 ≤ kk ∧ kk ≤ 60) = false := decide_eq_false hline
          have HD := Lib.hid hd
          have HLI := Lib.hid hline
          clear hd hline
          go_wp2_with fail
          refine (sline _ kk).mono ?_
          rw [HD.out]
          rintro e' w4 ⟨rfl, rfl⟩
          go_wp2_with fail
          refine bodyPost_ret (results_tmp2 rfl _ _ _) rfl ?_
          have hbl := HBL.out
          have hn := Got.bad HGT.out hkx HLI.out (by
            rcases HT3.out with ⟨e1, e2, _, e4⟩ | ⟨e1, e2, e3⟩
            · exact .inl ⟨e1, e2, e4⟩
            · exact .inr ⟨e1, e2, by rw [hbl]; exact e3⟩) (by rw [hbl]; exact HAT.out)
          rw [recv_none HL3.out HXV.out HX0.out hn]
          obtain ⟨vr3, h3⟩ := H3.out
          exact ⟨_, rfl, (h3.up2.tail.tail.tail.nilqu 9).up1⟩
      · obtain rfl : k = x := Nat.le_antisymm hk (Nat.le_of_not_lt hkx)
        have hdn := Got.done HGT.out
        have hacc : acc.length = k := HGT.out.1
        have HACC := Lib.hid hacc
        have hok := rok W B wr rb _ bs at_ fl _ ⟨vr, HH.out.perm perm2.symm⟩
        have HOK := Lib.hid hok
        clear hok hacc
        rcases hdn with ⟨rfl, hls⟩ | ⟨rfl, hnone⟩
        · have h35 : ¬ Bt.length < 35 := fun h => by unfold linesOf at hls; rw [if_pos h] at hls; cases hls
          have hx2v : (x2 : Int) = val ((Bt.drop 3).take 32) := by
            have hbl := HBL.out
            rcases HT2.out with ⟨_, _, _, e4⟩ | ⟨_, _, e3⟩
            · exact e4
            · rcases e3 with h | h
              · cases h
              · exact absurd (by omega) h35
          have hrv := fun given => recv_first (given := given) HL3.out HXV.out HX0.out hls hx2v
          have HRV := Lib.hid hrv
          clear hls h35 hx2v hrv
          by_cases hx20 : x2 = 0
          · have t2 : ((x2 : Int) == 0) = true := by rw [hx20]; rfl
            have HX20 := Lib.hid hx20
            clear hx20
            go_wp2_with fail
            refine HOK.out.mono ?_
            rintro e' w5 ⟨rfl, rfl⟩
            go_wp2_with fail
            refine bodyPost_ret (results_tmp2 rfl _ _ _) rfl ?_
            rw [HRV.out, if_pos HX20.out]
            exact ⟨_, rfl, (HH.out.tail.tail.tail.nilqu 9).up1⟩
          · have t2 : ((x2 : Int) == 0) = false := beq_eq_false_iff_ne.2 (by omega)
            have HX20 := Lib.hid hx20
            obtain ⟨u1, u2, u3, u4, u5, u6, u7, u8⟩ := first_facts HG.out HX2.out HX8.out
            have cb := HH.out.up3.cell 0 rfl
            have fb := HH.out.up3.frozen 0
            clear hx20
            by_cases hA : given + 1 < (x2 : Int)
            · have t3 : decide (given + 1 < (x2 : Int)) = true := decide_eq_true hA
              have HA := Lib.hid hA
              go_wp2_with fail
              refine HOK.out.mono ?_
              rintro e' w5 ⟨rfl, rfl⟩
              go_wp2_with fail
              refine bodyPost_ret (results_tmp2 rfl _ _ _) rfl ?_
              rw [HRV.out, if_neg HX20.out, if_pos (.inl HA.out)]
              exact ⟨_, rfl, (HH.out.tail.tail.tail.nilqu 9).up1⟩
            · have t3 : decide (given + 1 < (x2 : Int)) = false := decide_eq_false hA
              have HA := Lib.hid hA
              by_cases hBc : (x2 : Int) + (k : Int) ≤ given + 1
              · have t4 : decide ((x2 : Int) + (k : Int) ≤ given + 1) = true := decide_eq_true hBc
                have HBC := Lib.hid hBc
                clear hA
                go_wp2_with fail
                refine HOK.out.mono ?_
                rintro e' w5 ⟨rfl, rfl⟩
                go_wp2_with fail
                refine bodyPost_ret (results_tmp2 rfl _ _ _) rfl ?_
                rw [HRV.out, if_neg HX20.out, if_pos (.inr HBC.out)]
                exact ⟨_, rfl, (HH.out.tail.tail.tail.nilqu 9).up1⟩
              · have t4 : decide ((x2 : Int) + (k : Int) ≤ given + 1) = false := decide_eq_false hBc
                have HBC := Lib.hid hBc
                obtain ⟨ga, ca, he, hca, _⟩ := HH.out.row (Nat.pos_of_ne_zero HX0.out)
                simp only [Value.slice.injEq] at he
                obtain ⟨rfl, _, rfl⟩ := he
                obtain ⟨d, m, q1, q2, q3, q4, q5, q6, q7, q8, q9, q10, q11, q12, q13, q14⟩ := cut_facts HG.out HX2.out HX8.out HA.out HBC.out hca
                have HQ := Lib.hid (And.intro q12 (And.intro q13 q14))
                have HQ1 := Lib.hid q1
                have HQ7 := Lib.hid q7
                clear hA hBc hca q12 q13 q14
                go_wp2_with fail
                refine HOK.out.mono ?_
                rintro e' w5 ⟨rfl, rfl⟩
                go_wp2_with fail
                refine bodyPost_ret (results_tmp2 rfl _ _ _) rfl ?_
                have hnb : ¬ (given + 1 < (x2 : Int) ∨ (x2 : Int) + (k : Int) ≤ given + 1) := by
                  first
                    | exact nb HA.out HBC.out
                    | exact nb (Int.not_lt.1 HA.out) (Int.not_le.1 HBC.out)
                rw [HRV.out, if_neg HX20.out, if_neg hnb]
                have h9 := (((HH.out.up3.set 0 (.int .u32 (given + (m : Int)))).up2.tail).up2.tail).up1
                have h10 := row_cut h9 HACC.out HQ.out.1 HQ.out.2.1
                rw [HQ7.out] at h10
                refine ⟨_, rfl, ?_⟩
                dsimp only
                rw [HQ.out.2.2, cut_toNat HQ1.out]
                exact h10.up1
        · have HN := Lib.hid hnone
          clear hnone
          go_wp2_with fail
          refine HOK.out.mono ?_
          rintro e' w5 ⟨rfl, rfl⟩
          go_wp2_with fail
          refine bodyPost_ret (results_tmp2 rfl _ _ _) rfl ?_
          rw [recv_none HL3.out HXV.out HX0.out HN.out]
          exact ⟨_, rfl, (HH.out.tail.tail.tail.nilqu 9).up1⟩

end Go.Proofs.Ytpnnalkihcemhaa.Str
