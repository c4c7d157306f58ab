/- A message parted, by the reference. -/
import Derived.Test.YtpnnalkihcemhaaFragS2
import Derived.Test.YtpnnalkihcemhaaRef6c
set_option linter.unusedVariables false
set_option linter.unusedSimpArgs false
namespace Go.Proofs.Ytpnnalkihcemhaa.Frag
open Go.Sort Go.RowKit Go.Proofs.Ytpnnalkihcemhaa.Mem Go.Proofs.Ytpnnalkihcemhaa.Bits Go.Proofs.Ytpnnalkihcemhaa.Wr Go.Proofs.Ytpnnalkihcemhaa.Num Go.Proofs.Ytpnnalkihcemhaa.Step Go.Proofs.YtpnnalkihcemhaaW.PrintWords

theorem Holds.belowed {W w w' : World} {B : Nat} {H : List Ent} (h : Holds W B w H) (hb : Below w.heap.size w w') : Holds W B w' H :=
  ⟨h.below.trans (hb.mono h.size), Nat.le_trans h.size hb.size, fun e he => (h.each e he).kept fun k hk => hb.block k ((h.each e he).lt hk).2, h.nodup⟩

theorem le_alloc {w : World} {B : Nat} (h : B ≤ w.heap.size) (o : Obj) : B ≤ (w.alloc o).heap.size := by simp; omega
theorem fl {k n L q : Nat} (hk : k < n) (hn : cnt L = n) (hL : L ≤ 4000) (hq : 300 * k = q) :
    (k : Int) * 300 = (q : Int) ∧ IntKind.i64.wrap (q : Int) = (q : Int) ∧ wrap64 (q : Int) = (q : Int) ∧ wrap64 ((k : Int) * 300) = (q : Int) ∧ (q : Int) < (L : Int) := by
  have := cnt_lt (n := L) (k := k) (by omega)
  rw [wrap_i64]; unfold wrap64; omega
theorem fl2 {n L q : Nat} (hn : cnt L = n) (hL : L ≤ 4000) (hq : 300 * n = q) :
    (n : Int) * 300 = (q : Int) ∧ IntKind.i64.wrap (q : Int) = (q : Int) ∧ wrap64 (q : Int) = (q : Int) ∧ wrap64 ((n : Int) * 300) = (q : Int) ∧ (L : Int) ≤ (q : Int) := by
  unfold cnt at hn
  rw [wrap_i64]; unfold wrap64; omega
theorem take_len {bs : List Int} {q m : Nat} (hm : m = ((bs.drop q).take 300).length) : (bs.drop q).take m = (bs.drop q).take 300 := by
  rw [List.take_eq_take_iff]
  rw [List.length_take] at hm
  omega
theorem take_next {bs : List Int} {q j x : Nat} (hx : q + j = x) (h : x < bs.length) : (bs.drop q).take (j + 1) = (bs.drop q).take j ++ [bs[x]?.getD 0] := by
  rw [List.take_add_one]
  congr 1
  rw [List.getElem?_drop, hx, List.getElem?_eq_getElem h]
  rfl
theorem fx {q j m x s L : Nat} (hj : j < m) (hx : q + j = x) (hs : q + 300 = s) (hm : q + m ≤ L ∧ m ≤ 300) (hL : L ≤ 4000) :
    (0 : Int) ≤ (x : Int) ∧ (x : Int) < (s : Int) ∧ (x : Int) < (L : Int) ∧ wrap64 ((x : Int) + 1) = (x : Int) + 1 ∧ 3 + j + 1 ≤ maxLen ∧ (3 + j + 1) * 1 ≤ 140737488355328 ∧ x < L := by
  unfold wrap64 maxLen; omega
theorem fx2 {q m x s L : Nat} (hx : q + m = x) (hs : q + 300 = s) (hm : m = min 300 (L - q)) (hq : q < L) : (decide ((x : Int) < (s : Int)) = false ∧ ¬ (x : Int) < (s : Int)) ∨ (((x : Int) < (s : Int)) ∧ decide ((x : Int) < (L : Int)) = false ∧ ¬ (x : Int) < (L : Int)) := by
  by_cases h : (x : Int) < (s : Int)
  · right; refine ⟨h, ?_, by omega⟩
    simp; omega
  · left; exact ⟨by simpa using h, h⟩
theorem num_get {bs : List Int} {x : Nat} (h : x < bs.length) : (nums .u8 bs)[x]? = some (.int .u8 (bs[x]?.getD 0)) := by
  rw [nums, List.getElem?_map, List.getElem?_eq_getElem h]
  rfl

set_option maxHeartbeats 2000000 in
theorem rsplit_own (w : World) (idn : Int) (v : Value) (bs : List Int) (hi0 : 0 ≤ idn) (hi1 : idn < 65536) (hv : Rd w v bs.length (nums .u8 bs)) (h0 : 0 < bs.length) (h4 : bs.length ≤ 4000) :
    Calls Try.prog 17 #[.int .u16 idn, v] w fun e' w' => ∃ v', e' = .returned (.tuple #[v', .int .i64 0]) ∧ Parts w w.heap.size w' v' idn bs (cnt bs.length) := by
  obtain ⟨i0, hi, hz0, hz1, hz2⟩ := info_parts info_u8
  obtain ⟨j0, hj, hy0, hy1, hy2⟩ := info_parts info_sl
  obtain ⟨A, c, rfl, hc, hm, hr⟩ := Rd.form hv (nums_length _ _)
  obtain ⟨b, off, rfl, hlt, hc0⟩ := hr 0 h0
  have HR := Lib.hid hr
  have HM := Lib.hid hm
  have tb : ((bs.length : Int) == 0) = false := beq_eq_false_iff_ne.2 (by omega)
  have tb2 : decide ((4000 : Int) < (bs.length : Int)) = false := by simp; omega
  have H4 := Lib.hid h4
  obtain ⟨n, hn⟩ : ∃ n, cnt bs.length = n := ⟨_, rfl⟩
  have hn14 : n ≤ 14 := hn ▸ cnt_max h4
  have HN := Lib.hid hn
  have HN14 := Lib.hid hn14
  have tu : IntKind.u64.wrap idn = idn := by rw [wrap_u64]; omega
  have tu2 : idn % 18446744073709551616 = idn := by omega
  clear hr hm hv hc0 hn hn14 h0 h4
  go_enter Try.func17, Try.ntmps17
  go_wp2_with fail
  go_loopw [6] (fun i wr => ∃ k : Nat, k ≤ n ∧ i = .int .i64 k ∧ w = wr) (fun i _ => n - (intOf i).toNat)
  case atStart => exact ⟨0, Nat.zero_le _, rfl, rfl⟩
  case round =>
    obtain ⟨k, hk, rfl, rfl⟩ := hrel
    have HTS := Lib.hid (succ_len k (show k < maxLen by have := HN14.out; unfold maxLen; omega))
    obtain ⟨q, hq⟩ : ∃ q, 300 * k = q := ⟨_, rfl⟩
    by_cases hkn : k < n
    · obtain ⟨f1, f2, f3, f4, f5⟩ := fl hkn HN.out H4.out hq
      clear hq
      go_wp2_with fail
      try rw [HTS.out]
      exact ⟨⟨k + 1, by omega, cast_succ k, by first | rfl | trivial⟩, succ_less hkn⟩
    · obtain rfl : k = n := by omega
      obtain ⟨f1, f2, f3, f4, f5⟩ := fl2 HN.out H4.out hq
      have f6 : ¬ (q : Int) < (bs.length : Int) := by omega
      clear hq
      go_wp2_with fail
      clear f1 f2 f3 f4 f5 f6 HTS hk hkn
      go_loopw [7, 8] (fun out i wr => ∃ j : Nat, j ≤ k ∧ i = .int .i64 j ∧ Parts w w.heap.size wr out idn bs j) (fun _ i _ => k - (intOf i).toNat)
      case atStart => exact ⟨0, Nat.zero_le _, rfl, [], [], rfl, (Holds.start _).nilrow _ _, fun i hi => by omega, List.Perm.refl _⟩
      case round =>
        obtain ⟨j, hjk, rfl, hP⟩ := hrel
        by_cases hkn : j < k
        · obtain ⟨vs, P, hvl, hH, hPP⟩ := hP
          have HPP := Lib.hid hPP
          have HVL := Lib.hid hvl
          obtain ⟨A7, c7, rfl⟩ := hH.slice
          have hfr := rfresh hH 78
          have hp1 := rput _ _ _ _ _ _ _ idn 16 hfr hi0 (by omega) (by decide) (by decide) (by decide)
          have HP1 := Lib.hid hp1
          have HTS := Lib.hid (succ_len j (show j < maxLen by have := HN14.out; unfold maxLen; omega))
          obtain ⟨tk1, tk2, tk3, tk4⟩ := fn (Nat.lt_of_le_of_lt (Nat.zero_le _) hkn) HN14.out
          obtain ⟨tk5, tk6⟩ := fk2 hkn HN14.out
          have HKB : Hid (0 ≤ (k : Int) - 1 ∧ (k : Int) - 1 < 18446744073709551616 ∧ (0 : Int) ≤ (j : Int) ∧ (j : Int) < 18446744073709551616) := by have := HN14.out; show _ ∧ _ ∧ _ ∧ _; omega
          clear hH hfr hp1 hPP hvl
          go_wp2_with fail
          refine HP1.out.mono ?_
          rintro e' w2 ⟨rfl, h2⟩
          have hp2 := rput _ _ _ _ _ _ _ ((k : Int) - 1) 4 h2 HKB.out.1 HKB.out.2.1 (by decide) (by decide) (by rw [List.nil_append, bitsOf_length]; decide)
          have HP2 := Lib.hid hp2
          clear hp2 h2 HP1
          go_wp2_with fail
          refine HP2.out.mono ?_
          rintro e' w3 ⟨rfl, h3⟩
          have hp3 := rput _ _ _ _ _ _ _ (j : Int) 4 h3 HKB.out.2.2.1 HKB.out.2.2.2 (by decide) (by decide) (by rw [List.nil_append, List.length_append, bitsOf_length, bitsOf_length]; decide)
          have HP3 := Lib.hid hp3
          clear hp3 h3 HP2
          go_wp2_with fail
          refine HP3.out.mono ?_
          rintro e' w4 ⟨rfl, h4⟩
          obtain ⟨HB, hHB⟩ : ∃ HB, headB idn k j = HB := ⟨_, rfl⟩
          rw [show ([] ++ bitsOf idn (16 : Int).toNat ++ bitsOf ((k : Int) - 1) (4 : Int).toNat ++ bitsOf (j : Int) (4 : Int).toNat) = HB from hHB] at h4
          have HHB := Lib.hid hHB
          have hHBl : HB.length = 24 := hHB ▸ headB_length idn k j
          have hp4 := rbytes _ _ _ _ _ _ _ h4 (by rw [hHBl]; decide)
          have HP4 := Lib.hid hp4
          have hnb : nby HB = 3 := by unfold nby; omega
          have HNB := Lib.hid hnb
          clear h4 HP3 hHB hHBl hp4 hnb
          go_wp2_with fail
          refine HP4.out.mono ?_
          rintro e' w5 ⟨vp, rfl, vB, h5⟩
          have h5 := h5.tail.tail
          rw [HNB.out] at h5
          obtain ⟨g1, cp1, rfl, hz5⟩ := h5.row (by decide)
          clear hz5
          obtain ⟨q, hq⟩ : ∃ q, 300 * j = q := ⟨_, rfl⟩
          obtain ⟨s, hs⟩ : ∃ s, q + 300 = s := ⟨_, rfl⟩
          obtain ⟨m, hm⟩ : ∃ m, m = ((bs.drop (300 * j)).take 300).length := ⟨_, rfl⟩
          have hm1 : m = min 300 (bs.length - q) := by rw [hm, List.length_take, List.length_drop, hq]
          obtain ⟨f1, f2, f3, f4, f5⟩ := fl hkn HN.out H4.out hq
          obtain ⟨_, tr, _, _, tk8, _, ws⟩ := fk hkn HN14.out hq
          have HQ5 := Lib.hid f5
          have HM1 := Lib.hid hm1
          have hqm : q + m ≤ bs.length ∧ m ≤ 300 := by omega
          have HQM := Lib.hid hqm
          have HMM := Lib.hid hm
          have tk9 : (q : Int) + 300 = (s : Int) := by omega
          rw [hs] at tr tk8 ws
          have HS := Lib.hid hs
          have HQ := Lib.hid hq
          have H5 := Lib.hid h5
          clear hm hm1 hq hs h5 hqm HP4 f5
          go_wp2_with fail
          go_loopw [10, 11] (fun p x wr => ∃ i : Nat, i ≤ m ∧ x = .int .i64 ((q + i : Nat) : Int) ∧ Holds w w.heap.size wr (.rw p 5 1 (3 + i) (nums .u8 (pack HB) ++ nums .u8 ((bs.drop q).take i)) :: .rw (.slice A7 j c7) 25 1 j vs :: P))
            (fun _ x _ => q + m - (intOf x).toNat)
          case atStart => exact ⟨0, Nat.zero_le _, rfl, by simpa [nums] using H5.out⟩
          case round =>
            obtain ⟨i, him, rfl, hH⟩ := hrel
            clear H5
            obtain ⟨x, hx⟩ : ∃ x, q + i = x := ⟨_, rfl⟩
            rw [hx]
            obtain ⟨g2, cp2, rfl, _⟩ := hH.row (by omega)
            by_cases hi2 : i < m
            · obtain ⟨x0, x1, x2, x3, x4, x5, x6⟩ := fx hi2 hx HS.out HQM.out H4.out
              obtain ⟨b', off', hA, _, hcx⟩ := HR.out x x6
              obtain ⟨rfl, rfl⟩ := some_addr hA
              have cx := (hH.below.cell (p := ⟨b, off + x, none⟩) hlt).trans (hcx _ (num_get x6))
              have hown := hH.own
              have HH := Lib.hid hH
              have HXX := Lib.hid hx
              have HX4 := Lib.hid x4
              have HX5 := Lib.hid x5
              have HX6 := Lib.hid x6
              have HX3 := Lib.hid x3
              clear hH hcx hA hx x3 x4 x5 x6
              go_wp2_with (at_builtin; refine wpList_append_own_at _ rfl (.tmp 56) (.tmp 61) 25 rfl w.heap.size 5 i0 (.int .u8 0) 1 1 Try.underlying25 hi hz0 hz1 hz2 rfl (by decide) _ _ _ rfl (hown.alloc _) ⟨wr.heap.size, 0, none⟩ 1 1 [_] rfl rfl (cell_one_new _ _ _) ?c2 HX4.out HX5.out ?c5 ?_)
              case c2 => intro u hu; simp at hu; subst hu; rfl
              case c5 => exact le_alloc HH.out.size _
              intro v8 w8 ho hg _ hat
              have h8 := (HH.out.alloc' _).grew ho hg (hat.imp id (fun h => ⟨_, h, by simp⟩))
              clear ho hg hat hown cx
              have H8 := Lib.hid h8
              clear h8 HH
              go_wp2_with fail
              try rw [HX3.out]
              refine ⟨⟨i + 1, by omega, ?_, ?_⟩, ?_⟩
              · rw [← Nat.add_assoc, HXX.out]; exact cast_succ x
              · rw [take_next HXX.out HX6.out, nums_append]
                exact H8.out
              · have := HXX.out; simp [intOf]; omega
            · obtain rfl : i = m := by omega
              have HH := Lib.hid hH
              have hown := hH.up1.own
              have x0 : (0 : Int) ≤ (x : Int) := by omega
              rcases fx2 hx HS.out HM1.out (by have := HQ5.out; omega) with ⟨x1, x2⟩ | ⟨x1, x2, x3⟩
              all_goals
                clear hx hH hi2 him
                go_upto_region 21 with (fail)
                clear x0 x1 x2
                try clear x3
                go_wp2_with (at_builtin; refine wpList_append_own_at _ rfl (.tmp 63) (.tmp 65) 27 rfl w.heap.size 25 j0 (.slice none 0 0) 1 24 Try.underlying27 hj hy0 hy1 hy2 rfl (by decide) _ _ _ rfl (hown.alloc _) ⟨wr.heap.size, 0, none⟩ 1 1 [_] rfl rfl (cell_one_new _ _ _) (one_slice _ _ _) (fb3 hkn HN14.out) (fb4 hkn HN14.out) ?c5 ?_)
                case c5 => exact le_alloc HH.out.size _
                intro v8 w8 ho hg _ hat
                have h8 := (HH.out.alloc' _).up1.grew ho hg (hat.imp id (fun h => ⟨_, h, by simp⟩))
                rw [← HQ.out] at h8
                rw [take_len HMM.out] at h8
                have hN := parts_next HVL.out HMM.out HPP.out (by rw [HN.out]; exact HHB.out.symm) h8
                have HNN := Lib.hid hN
                clear ho hg hat hown h8 hN HH
                go_wp2_with fail
                try rw [HTS.out]
                exact ⟨⟨j + 1, by omega, cast_succ j, HNN.out⟩, succ_less hkn⟩
        · obtain rfl : j = k := by omega
          have HD := Lib.hid hP
          clear hP
          go_wp2_with fail
          exact bodyPost_ret (results_tmp2 rfl _ _ _) rfl ⟨_, rfl, by rw [HN.out]; exact HD.out⟩
theorem rsplit_loop (w : World) (idn : Int) (v : Value) (bs : List Int) (hi0 : 0 ≤ idn) (hi1 : idn < 65536) (hv : Rd w v bs.length (nums .u8 bs)) (h0 : 0 < bs.length) (h4 : bs.length ≤ 4000) :
    Calls Try.prog 17 #[.int .u16 idn, v] w fun e' w' => ∃ v', e' = .returned (.tuple #[v', .int .i64 0]) ∧ Below w.heap.size w w' ∧ RdS w' v' (splitL idn bs) := by
  refine (rsplit_own w idn v bs hi0 hi1 hv h0 h4).mono ?_
  rintro e' w' ⟨v', rfl, h⟩
  have hd := parts_done h rfl
  obtain ⟨_, _, _, hb, _⟩ := h
  exact ⟨v', rfl, hb.below, hd⟩

set_option maxHeartbeats 1000000 in
theorem rsplit (w : World) (idn : Int) (v : Value) (bs : List Int) (hi0 : 0 ≤ idn) (hi1 : idn < 65536) (hv : Rd w v bs.length (nums .u8 bs)) :
    Calls Try.prog 17 #[.int .u16 idn, v] w fun e' w' => ∃ v', e' = .returned (.tuple #[v', .int .i64 (errS bs)]) ∧ Below w.heap.size w w' ∧ RdS w' v' (partsOf idn bs) := by
  by_cases h0 : bs.length = 0
  · have he : errS bs = 1 := by unfold errS; rw [if_pos h0]
    have hp : partsOf idn bs = [] := partsOf_not (by omega)
    rw [he, hp]
    obtain ⟨A, c, rfl, hc, hm, hr⟩ := Rd.form hv (nums_length _ _)
    have tb : ((bs.length : Int) == 0) = true := beq_iff_eq.2 (by omega)
    clear hr hm hv h0 he hp
    go_enter Try.func17, Try.ntmps17
    go_wp2_with fail
    exact bodyPost_ret (results_tmp2 rfl _ _ _) rfl ⟨_, rfl, Below.refl _ _, RdS.nil _⟩
  · by_cases h4 : 4000 < bs.length
    · have he : errS bs = 3 := by unfold errS; rw [if_neg h0, if_pos h4]
      have hp : partsOf idn bs = [] := partsOf_not (by omega)
      rw [he, hp]
      obtain ⟨A, c, rfl, hc, hm, hr⟩ := Rd.form hv (nums_length _ _)
      have tb : ((bs.length : Int) == 0) = false := beq_eq_false_iff_ne.2 (by omega)
      have tb2 : decide ((4000 : Int) < (bs.length : Int)) = true := by simp; omega
      clear hr hm hv h0 he hp
      go_enter Try.func17, Try.ntmps17
      go_wp2_with fail
      exact bodyPost_ret (results_tmp2 rfl _ _ _) rfl ⟨_, rfl, Below.refl _ _, RdS.nil _⟩
    · have he : errS bs = 0 := by unfold errS; rw [if_neg h0, if_neg h4]
      rw [he, partsOf_ok he]
      exact rsplit_loop w idn v bs hi0 hi1 hv (by omega) (by omega)

end Go.Proofs.Ytpnnalkihcemhaa.Frag
