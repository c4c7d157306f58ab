/- The law BitsBy: a number of n bits is put and taken the same bit by bit. For all numbers; no condition. Here: the walk. -/
import Derived.Test.YtioogmicdonbpaaBitsByP
set_option linter.unusedVariables false
set_option linter.unusedSimpArgs false
namespace Go.Proofs.Ytioogmicdonbpaa.Wr
open Go.RowKit Go.Proofs.Ytioogmicdonbpaa.Mem Go.Proofs.Ytioogmicdonbpaa.Bits Go.Proofs.Ytioogmicdonbpaa.Num Go.Proofs.Ytioogmicdonbpaa.Open Go.Proofs.YtioogmicdonbpaaW.PrintWords

theorem i_facts {k n : Nat} (h : k < n) (hn : n ≤ 64) : (0 : Int) ≤ (k : Int) ∧ (k : Int) < (n : Int) ∧ wrap64 ((k : Int) + 1) = (k : Int) + 1 ∧ IntKind.i64.wrap ((k : Int) + 1) = (k : Int) + 1 ∧ IntKind.u64.wrap (k : Int) = (k : Int) ∧ min k 64 = k := by rw [wrap_i64, wrap_u64]; unfold wrap64; omega
theorem sum_facts {m h N : Nat} (hm : m < 65) (hh : h < 9) (hN : N = h + m) : (m : Int) + (h : Int) = (N : Int) ∧ IntKind.i64.wrap (N : Int) = (N : Int) ∧ min m 64 = m ∧ IntKind.u64.wrap (m : Int) = (m : Int) ∧ ((N : Int) == (N : Int)) = true := by
  rw [wrap_i64, wrap_u64]; unfold wrap64
  refine ⟨by omega, by omega, by omega, by omega, by simp⟩
theorem is64 {m : Nat} {x : Int} (h : m = 64) (h0 : 0 ≤ x) (h1 : x < 18446744073709551616) : ((m : Int) == 64) = true ∧ x % 2 ^ m = x := by
  subst h
  refine ⟨rfl, ?_⟩
  have e : (2 : Int) ^ 64 = 18446744073709551616 := by decide
  rw [e]
  exact Int.emod_eq_of_lt h0 h1
theorem not64 {m : Nat} {x : Int} (h : ¬ m = 64) (hm : m < 65) (h0 : 0 ≤ x) (h1 : x < 18446744073709551616) : ∃ Y P : Int, x % 2 ^ m = Y ∧ (2 : Int) ^ m = P ∧ ((m : Int) == 64) = false ∧ decide ((m : Int) < 64) = true ∧ (m : Int) < 64 ∧ IntKind.u64.wrap P = P ∧ ¬ P = 0 ∧ x % P = Y ∧ x.tmod P = Y := by
  have hpow : (2 : Int) ^ m ≤ 9223372036854775808 ∧ 0 < (2 : Int) ^ m := by
    refine ⟨?_, Int.pow_pos (by decide)⟩
    have : (2 : Int) ^ m ≤ 2 ^ 63 := by exact_mod_cast Nat.pow_le_pow_right (by decide) (show m ≤ 63 by omega)
    simpa using this
  obtain ⟨hp1, hp0⟩ := hpow
  refine ⟨_, _, rfl, rfl, beq_eq_false_iff_ne.2 (by omega), decide_eq_true (by omega), by omega, ?_, by omega, rfl, Int.tmod_eq_emod_of_nonneg h0⟩
  rw [wrap_u64]
  exact Int.emod_eq_of_lt (by omega) (by omega)
theorem down_i {j n : Nat} (h : j < n) : n - (intOf (Value.int .i64 ((j : Int) + 1))).toNat < n - (intOf (Value.int .i64 (j : Int))).toNat := by simp [intOf]; omega

set_option maxRecDepth 100000 in
set_option maxHeartbeats 4000000 in
theorem bitsBy_core (w : World) (x n ahead : Int) (x0 : 0 ≤ x) (x1 : x < 18446744073709551616) (n0 : 0 ≤ n) (n1 : n < 256) (a0 : 0 ≤ ahead) (a1 : ahead < 256) :
    Calls Try.prog 9 #[.int .u64 x, .int .u8 n, .int .u8 ahead] w fun e' w' => e' = .returned (.bool true) ∧ Below w.heap.size w w' := by
  obtain ⟨k, hk, hk65, kw⟩ := rem_facts 65 (by decide) (by decide) n0 n1
  obtain ⟨h, hh, hh9, hw⟩ := rem_facts 9 (by decide) (by decide) a0 a1
  rw [show ((65 : Nat) : Int) = 65 from rfl] at hk
  rw [show ((9 : Nat) : Int) = 9 from rfl] at hh
  have HX := Lib.hid (And.intro x0 x1)
  have HK := Lib.hid (And.intro hk65 hh9)
  have hb0 := (((Holds.start w).alloc [.slice none 0 0, .int .i64 0] 33).alloc [.slice none 0 0, .int .i64 0] 33)
  rw [show (w.alloc (.cells [Value.slice none 0 0, .int .i64 0].toArray 33)).heap.size = w.heap.size + 1 by simp] at hb0
  have hb1 := Holds.sel [_, _, _, _] ((hb0.nilrow 5 1).nilrow 5 1) [3, 0, 2, 1] rfl
  simp only [pick, List.getElem?_cons_succ, List.getElem?_cons_zero, List.append_eq, List.cons_append, List.nil_append] at hb1
  have HB := Lib.hid hb1
  clear hb0 hb1 x0 x1 n0 n1 a0 a1 hk65 hh9
  go_enter Try.func9, Try.ntmps9
  go_wp2_with fail
  refine (put w w.heap.size _ _ 33 [] _ 1 (h : Int) ⟨_, HB.out⟩ (by decide) (by decide) (Int.natCast_nonneg _) (Int.ofNat_le.2 (Nat.le_trans (Nat.le_of_lt HK.out.2) (by decide : 9 ≤ 64))) (by decide)).mono ?_
  rintro e' w1 ⟨rfl, va, h1⟩
  rw [List.nil_append, Int.toNat_natCast] at h1
  have h1 := Holds.sel [_, _, _, _] h1 [2, 3, 0, 1] rfl
  simp only [pick, List.getElem?_cons_succ, List.getElem?_cons_zero, List.append_eq, List.cons_append, List.nil_append] at h1
  have H1 := Lib.hid h1
  clear h1 HB
  go_wp2_with fail
  refine (put w w.heap.size _ _ 33 [] _ 1 (h : Int) ⟨_, H1.out⟩ (by decide) (by decide) (Int.natCast_nonneg _) (Int.ofNat_le.2 (Nat.le_trans (Nat.le_of_lt HK.out.2) (by decide : 9 ≤ 64))) (by decide)).mono ?_
  rintro e' w2 ⟨rfl, vb, h2⟩
  rw [List.nil_append, Int.toNat_natCast] at h2
  obtain ⟨L, hL, hLn⟩ : ∃ L, bitsOf 1 h = L ∧ L.length = h := ⟨_, rfl, bitsOf_length _ _⟩
  rw [hL] at h2
  have h2 := Holds.sel [_, _, _, _] h2 [2, 3, 0, 1] rfl
  simp only [pick, List.getElem?_cons_succ, List.getElem?_cons_zero, List.append_eq, List.cons_append, List.nil_append] at h2
  have H2 := Lib.hid h2
  have HLN := Lib.hid hLn
  clear h2 H1 hL hLn
  go_wp2_with fail
  have hput := put w w.heap.size _ _ 33 L _ x (k : Int) ⟨_, H2.out⟩ HX.out.1 HX.out.2 (Int.natCast_nonneg _) (Int.ofNat_le.2 (Nat.le_of_lt_succ HK.out.1)) (by rw [HLN.out]; exact Nat.le_trans (Nat.add_le_add_right (Nat.le_of_lt HK.out.2) 64) (by decide))
  refine hput.mono ?_
  rintro e' w3 ⟨rfl, va3, h3⟩
  rw [Int.toNat_natCast] at h3
  have h3 := Holds.sel [_, _, _, _] h3 [2, 3, 0, 1] rfl
  simp only [pick, List.getElem?_cons_succ, List.getElem?_cons_zero, List.append_eq, List.cons_append, List.nil_append] at h3
  have H3 := Lib.hid h3
  clear h3 H2 hput
  go_wp2_with fail
  go_loopw [10] (fun i wr => ∃ j : Nat, Hid (j ≤ k) ∧ i = .int .i64 j ∧ Hid (HasW w w.heap.size wr (w.heap.size + 1) 33 (L ++ bitsOf x j) (.st w.heap.size [va3, .int .i64 ((L ++ bitsOf x k).length : Int)] 33 :: .rw va3 5 1 (nby (L ++ bitsOf x k)) (nums .u8 (pack (L ++ bitsOf x k))) :: [])))
    (fun i _ => k - (intOf i).toNat)
  case atStart => exact ⟨0, Lib.hid (Nat.zero_le _), rfl, Lib.hid ⟨vb, by simpa [bitsOf] using H3.out⟩⟩
  case round =>
    obtain ⟨j, HJ, rfl, HC⟩ := hrel
    clear H3
    by_cases hj : j < k
    · obtain ⟨j0, j1, j2, j3, j4, j5⟩ := i_facts hj (Nat.le_of_lt_succ HK.out.1)
      obtain ⟨q, hq⟩ : ∃ q, x / 2 ^ j = q := ⟨_, rfl⟩
      have HQ := Lib.hid hq
      have HJJ := Lib.hid hj
      clear hj
      have hqr := shr_bound x j HX.out.1
      rw [HQ.out] at hqr
      have hput := put w w.heap.size wr _ 33 (L ++ bitsOf x j) _ q 1 HC.out hqr.1 (Int.lt_of_le_of_lt hqr.2 HX.out.2) (by decide) (by decide) (by rw [List.length_append, bitsOf_length, HLN.out]; have := HK.out; have := HJJ.out; omega)
      rw [← HQ.out, show (1 : Int).toNat = 1 from rfl, put_one, HQ.out] at hput
      have HP := Lib.hid hput
      clear hqr hput
      go_wp2_with fail
      (with_reducible refine HP.out.mono ?_)
      rintro e' w4 ⟨rfl, h4⟩
      have H4 := Lib.hid h4
      clear h4 HP HC hq
      go_wp2_with fail
      exact ⟨⟨j + 1, Lib.hid HJJ.out, by go_num, H4⟩, down_i HJJ.out⟩
    · obtain rfl : j = k := Nat.le_antisymm HJ.out (Nat.le_of_not_lt hj)
      have k1 : ¬ (j : Int) < (j : Int) := Int.lt_irrefl _
      obtain ⟨vb3, h5⟩ := HC.out
      have h5 := Holds.sel [_, _, _, _] h5 [2, 3, 0, 1] rfl
      simp only [pick, List.getElem?_cons_succ, List.getElem?_cons_zero, List.append_eq, List.cons_append, List.nil_append] at h5
      obtain ⟨S, hS⟩ : ∃ S, L ++ bitsOf x j = S := ⟨_, rfl⟩
      obtain ⟨N, hN, hNs⟩ : ∃ N, S.length = N ∧ N = h + j := ⟨_, rfl, by rw [← hS, List.length_append, bitsOf_length, HLN.out]⟩
      rw [hS, hN] at h5
      have HSL := Lib.hid hS
      have HNL := Lib.hid (And.intro hN hNs)
      have H5 : Hid (HasW w w.heap.size wr w.heap.size 33 S [.st (w.heap.size + 1) [vb3, .int .i64 (N : Int)] 33, .rw vb3 5 1 (nby S) (nums .u8 (pack S))]) := ⟨va3, by rw [hN]; exact h5⟩
      clear HC h5 hj hS hN hNs
      go_wp2_with fail
      refine (bytes w w.heap.size _ _ 33 _ _ H5.out (by rw [HNL.out.1, HNL.out.2]; have := HK.out; omega)).mono ?_
      rintro e' w6 ⟨v6, rfl, va6, h6⟩
      have h6r := Holds.sel [_, _, _, _, _] h6 [2] rfl
      simp only [pick, List.getElem?_cons_succ, List.getElem?_cons_zero, List.append_eq, List.cons_append, List.nil_append] at h6r
      have r6 := h6r.rd
      rw [← pack_length S] at r6
      have H6 := Lib.hid h6
      have R6 := Lib.hid r6
      clear h6 h6r r6 H5
      go_wp2_with fail
      have hbk : bytesOk (pack S) := ⟨by rw [pack_length]; unfold nby; rw [HNL.out.1, HNL.out.2]; have := HK.out; omega, pack_byte _⟩
      have HBK := Lib.hid hbk
      clear hbk
      refine (rnew w w.heap.size _ _ _ (pack S) H6.out R6.out HBK.out).mono ?_
      rintro e' w7 ⟨rb, rfl, h7⟩
      have H7 := Lib.hid h7
      clear h7 H6 R6
      go_wp2_with fail
      refine (rtake w w.heap.size _ rb 65 (pack S) 0 _ (h : Int) H7.out HBK.out (Int.natCast_nonneg _) (Int.ofNat_le.2 (Nat.le_trans (Nat.le_of_lt HK.out.2) (by decide))) ?_).mono ?_
      · rw [pack_length]; unfold nby; rw [HNL.out.1, HNL.out.2]; omega
      rintro e' w8 ⟨rfl, h8⟩
      rw [Nat.zero_add, Int.toNat_natCast] at h8
      have H8 := Lib.hid h8
      clear h8 H7
      go_wp2_with fail
      go_loopw [12, 13] (fun y i wr => ∃ m : Nat, Hid (m ≤ j) ∧ i = .int .i64 m ∧ y = .int .u64 (x % 2 ^ m) ∧ Hid (HasR w w.heap.size wr rb 65 (pack S) (h + m) false (.st w.heap.size [va6, .int .i64 (S.length : Int)] 33 :: .rw va6 5 1 (nby S) (nums .u8 (pack S)) :: .rw v6 5 1 (nby S) (nums .u8 (pack S)) :: .st (w.heap.size + 1) [vb3, .int .i64 (N : Int)] 33 :: .rw vb3 5 1 (nby S) (nums .u8 (pack S)) :: [])))
        (fun _ i _ => j - (intOf i).toNat)
      case atStart => exact ⟨0, Lib.hid (Nat.zero_le _), rfl, by rw [Int.pow_zero, Int.emod_one], H8⟩
      case round =>
        obtain ⟨m, HM, rfl, rfl, HC⟩ := hrel
        clear H8
        by_cases hm : m < j
        · obtain ⟨m0, m1, m2, m3, m4, m5⟩ := i_facts hm (Nat.le_of_lt_succ HK.out.1)
          obtain ⟨q, c, D, c', y1, y2, y3, y4, y5, y6, y7, y8, y9, y10⟩ := y_step m HX.out.1 (Nat.lt_of_lt_of_le hm (Nat.le_of_lt_succ HK.out.1))
          have htk := rtake w w.heap.size wr rb 65 (pack S) (h + m) _ 1 HC.out HBK.out (by decide) (by decide) (by rw [pack_length]; unfold nby; rw [HNL.out.1, HNL.out.2]; omega)
          rw [← HSL.out, show (1 : Int).toNat = 1 from rfl, one_bits L x j m h hm HLN.out, val_one, y1, HSL.out] at htk
          have HTK := Lib.hid htk
          have HMM := Lib.hid hm
          rw [y2]
          have HY := Lib.hid (And.intro y2 y3)
          clear htk hm HC y1 y2 y3
          go_wp2_with fail
          refine HTK.out.mono ?_
          rintro e' w9 ⟨rfl, h9⟩
          have H9 := Lib.hid h9
          clear h9 HTK
          go_wp2_with fail
          exact ⟨⟨m + 1, Lib.hid HMM.out, by go_num, by rw [HY.out.2], H9⟩, down_i HMM.out⟩
        · obtain rfl : m = j := Nat.le_antisymm HM.out (Nat.le_of_not_lt hm)
          have k1 : ¬ (m : Int) < (m : Int) := Int.lt_irrefl _
          obtain ⟨vr, h10⟩ := HC.out
          have h10 := Holds.sel [_, _, _, _, _, _, _] h10 [2, 3, 5, 6] rfl
          simp only [pick, List.getElem?_cons_succ, List.getElem?_cons_zero, List.append_eq, List.cons_append, List.nil_append] at h10
          have H10 := Lib.hid h10
          clear h10 HC hm
          have hS9 : S.length ≤ 1000000000 := by rw [HNL.out.1, HNL.out.2]; have := HK.out; omega
          have HS9 := Lib.hid hS9
          have HNB := Lib.hid (show nby S ≤ 1000000 by unfold nby; rw [HNL.out.1, HNL.out.2]; have := HK.out; omega)
          clear hS9
          go_wp2_with fail
          obtain ⟨s1, s2, s3, s4, s5⟩ := sum_facts HK.out.1 HK.out.2 HNL.out.2
          by_cases h64 : m = 64
          · obtain ⟨u1, u2⟩ := is64 h64 HX.out.1 HX.out.2
            rw [u2]
            clear h64 u2
            refine Mix.region 42 (fun _ => True) (by kernel_rfl) ?_
            simp only [List.size_toArray, List.length_cons, List.length_nil]
            have hS1 : True := trivial
            refine Mix.at_step (i := 0) rfl (by kernel_rfl) (by kernel_rfl) (by rfl) ?_
            unfold Oper.wp
            go_simp
            refine (awake06 w w.heap.size _ _ H10.out.drew).mono ?_
            rintro e' wa ⟨rfl, ha⟩
            have HA := Lib.hid ha
            clear ha
            skip
            refine Mix.at_take (i := 1) (v := ?_) rfl (by kernel_rfl) (by kernel_rfl) (by kernel_rfl) (by kernel_rfl) (by kernel_rfl) (by kernel_rfl) (by kernel_rfl) (fun _ _ _ h => h) (Or.inl ⟨by rfl, ?_⟩) hS1 ?_
            rotate_left
            · intro w hSw
              go_simp
              try (with_reducible rfl)
            simp only [Act.put, List.getElem_toArray, List.getElem_cons_succ, List.getElem_cons_zero, List.setIfInBounds_toArray, List.set_cons_zero, List.set_cons_succ]
            refine Mix.at_take (i := 2) (v := ?_) rfl (by kernel_rfl) (by kernel_rfl) (by kernel_rfl) (by kernel_rfl) (by kernel_rfl) (by kernel_rfl) (by kernel_rfl) (fun _ _ _ h => h) (Or.inl ⟨by rfl, ?_⟩) hS1 ?_
            rotate_left
            · intro w hSw
              go_simp
              try (with_reducible rfl)
            simp only [Act.put, List.getElem_toArray, List.getElem_cons_succ, List.getElem_cons_zero, List.setIfInBounds_toArray, List.set_cons_zero, List.set_cons_succ]
            refine Mix.at_take (i := 5) (v := ?_) rfl (by kernel_rfl) (by kernel_rfl) (by kernel_rfl) (by kernel_rfl) (by kernel_rfl) (by kernel_rfl) (by kernel_rfl) (fun _ _ _ h => h) (Or.inl ⟨by rfl, ?_⟩) hS1 ?_
            rotate_left
            · intro w hSw
              go_simp
              try (with_reducible rfl)
            simp only [Act.put, List.getElem_toArray, List.getElem_cons_succ, List.getElem_cons_zero, List.setIfInBounds_toArray, List.set_cons_zero, List.set_cons_succ]
            refine Mix.at_step (i := 3) rfl (by kernel_rfl) (by kernel_rfl) (by rfl) ?_
            unfold Oper.wp
            go_simp
            refine (bytes w w.heap.size _ _ 33 S _ ⟨_, HA.out⟩ HS9.out).mono ?_
            rintro e' wb ⟨v11, rfl, va11, hb⟩
            have hb2 := Holds.sel [_, _, _, _, _] hb [2, 3, 4, 0, 1] rfl
            simp only [pick, List.getElem?_cons_succ, List.getElem?_cons_zero, List.append_eq, List.cons_append, List.nil_append] at hb2
            obtain ⟨A11, c11, rfl⟩ := hb2.slice
            have hS1 : Rd wb (.slice A11 (nby S) c11) (nby S) (nums .u8 (pack S)) := hb2.rd
            have HBB := Lib.hid hb2
            clear hb hb2 HA
            skip
            refine Mix.at_strong (S' := fun w' => Rd w' (.slice A11 (nby S) c11) (nby S) (nums .u8 (pack S))) (fun _ _ => trivial) ?_
            refine Mix.at_take (i := 4) (v := ?_) rfl (by kernel_rfl) (by kernel_rfl) (by kernel_rfl) (by kernel_rfl) (by kernel_rfl) (by kernel_rfl) (by kernel_rfl) (fun _ _ _ h => h) (Or.inl ⟨by rfl, ?_⟩) hS1 ?_
            rotate_left
            · intro w hSw
              have hcv := string_of_reads (P := Try.prog) (c := c11) (src := 31) (dst := 9) Try.underlying31 Try.underlying5 Try.underlying9 (reads_of hSw (pack_length S) HNB.out)
              go_simp
              try (with_reducible rfl)
            simp only [Act.put, List.getElem_toArray, List.getElem_cons_succ, List.getElem_cons_zero, List.setIfInBounds_toArray, List.set_cons_zero, List.set_cons_succ]
            refine Mix.at_step (i := 6) rfl (by kernel_rfl) (by kernel_rfl) (by rfl) ?_
            unfold Oper.wp
            go_simp
            have hin := HBB.out
            have hin := Holds.sel [_, _, _, _, _] hin [1, 2, 0, 3, 4] rfl
            simp only [pick, List.getElem?_cons_succ, List.getElem?_cons_zero, List.append_eq, List.cons_append, List.nil_append] at hin
            rw [← HNL.out.1] at hin
            refine (bytes w w.heap.size _ _ 33 S _ ⟨_, hin⟩ HS9.out).mono ?_
            rintro e' wd ⟨v12, rfl, va12, hb⟩
            have hb2 := Holds.sel [_, _, _, _, _, _] hb [2] rfl
            have hb3 := Holds.sel [_, _, _, _, _, _] hb [3] rfl
            simp only [pick, List.getElem?_cons_succ, List.getElem?_cons_zero, List.append_eq, List.cons_append, List.nil_append] at hb2
            simp only [pick, List.getElem?_cons_succ, List.getElem?_cons_zero, List.append_eq, List.cons_append, List.nil_append] at hb3
            obtain ⟨A12, c12, rfl⟩ := hb2.slice
            have hS1 := hb3.rd
            have hS2 := hb2.rd
            have HBD := Lib.hid hb
            clear hb hb2 hb3 HBB hin
            refine ⟨hS1, ?_⟩
            refine Mix.at_strong (S' := fun w' => Rd w' (.slice A11 (nby S) c11) (nby S) (nums .u8 (pack S)) ∧ Rd w' (.slice A12 (nby S) c12) (nby S) (nums .u8 (pack S))) (fun _ h => h.1) ?_
            have hS1 := And.intro hS1 hS2
            clear hS2
            refine Mix.at_take (i := 7) (v := ?_) rfl (by kernel_rfl) (by kernel_rfl) (by kernel_rfl) (by kernel_rfl) (by kernel_rfl) (by kernel_rfl) (by kernel_rfl) (fun _ _ _ h => h) (Or.inl ⟨by rfl, ?_⟩) hS1 ?_
            rotate_left
            · intro w hSw
              have hcv := string_of_reads (P := Try.prog) (c := c12) (src := 31) (dst := 9) Try.underlying31 Try.underlying5 Try.underlying9 (reads_of hSw.2 (pack_length S) HNB.out)
              go_simp
              try (with_reducible rfl)
            simp only [Act.put, List.getElem_toArray, List.getElem_cons_succ, List.getElem_cons_zero, List.setIfInBounds_toArray, List.set_cons_zero, List.set_cons_succ]
            refine Mix.at_take (i := 8) (v := ?_) rfl (by kernel_rfl) (by kernel_rfl) (by kernel_rfl) (by kernel_rfl) (by kernel_rfl) (by kernel_rfl) (by kernel_rfl) (fun _ _ _ h => h) (Or.inl ⟨by rfl, ?_⟩) hS1 ?_
            rotate_left
            · intro w hSw
              go_simp
              try (with_reducible rfl)
            simp only [Act.put, List.getElem_toArray, List.getElem_cons_succ, List.getElem_cons_zero, List.setIfInBounds_toArray, List.set_cons_zero, List.set_cons_succ]
            refine Mix.at_take (i := 9) (v := ?_) rfl (by kernel_rfl) (by kernel_rfl) (by kernel_rfl) (by kernel_rfl) (by kernel_rfl) (by kernel_rfl) (by kernel_rfl) (fun _ _ _ h => h) (Or.inl ⟨by rfl, ?_⟩) hS1 ?_
            rotate_left
            · intro w hSw
              go_simp
              try (with_reducible rfl)
            simp only [Act.put, List.getElem_toArray, List.getElem_cons_succ, List.getElem_cons_zero, List.setIfInBounds_toArray, List.set_cons_zero, List.set_cons_succ]
            refine Mix.at_take (i := 10) (v := ?_) rfl (by kernel_rfl) (by kernel_rfl) (by kernel_rfl) (by kernel_rfl) (by kernel_rfl) (by kernel_rfl) (by kernel_rfl) (fun _ _ _ h => h) (Or.inl ⟨by rfl, ?_⟩) hS1 ?_
            rotate_left
            · intro w hSw
              go_simp
              try (with_reducible rfl)
            simp only [Act.put, List.getElem_toArray, List.getElem_cons_succ, List.getElem_cons_zero, List.setIfInBounds_toArray, List.set_cons_zero, List.set_cons_succ]
            refine Mix.at_take (i := 11) (v := ?_) rfl (by kernel_rfl) (by kernel_rfl) (by kernel_rfl) (by kernel_rfl) (by kernel_rfl) (by kernel_rfl) (by kernel_rfl) (fun _ _ _ h => h) (Or.inl ⟨by rfl, ?_⟩) hS1 ?_
            rotate_left
            · intro w hSw
              go_simp
              try (with_reducible rfl)
            simp only [Act.put, List.getElem_toArray, List.getElem_cons_succ, List.getElem_cons_zero, List.setIfInBounds_toArray, List.set_cons_zero, List.set_cons_succ]
            refine Mix.at_take (i := 13) (v := ?_) rfl (by kernel_rfl) (by kernel_rfl) (by kernel_rfl) (by kernel_rfl) (by kernel_rfl) (by kernel_rfl) (by kernel_rfl) (fun _ _ _ h => h) (Or.inl ⟨by rfl, ?_⟩) hS1 ?_
            rotate_left
            · intro w hSw
              go_simp
              try (with_reducible rfl)
            simp only [Act.put, List.getElem_toArray, List.getElem_cons_succ, List.getElem_cons_zero, List.setIfInBounds_toArray, List.set_cons_zero, List.set_cons_succ]
            refine Mix.at_take (i := 14) (v := ?_) rfl (by kernel_rfl) (by kernel_rfl) (by kernel_rfl) (by kernel_rfl) (by kernel_rfl) (by kernel_rfl) (by kernel_rfl) (fun _ _ _ h => h) (Or.inl ⟨by rfl, ?_⟩) hS1 ?_
            rotate_left
            · intro w hSw
              go_simp
              try (with_reducible rfl)
            simp only [Act.put, List.getElem_toArray, List.getElem_cons_succ, List.getElem_cons_zero, List.setIfInBounds_toArray, List.set_cons_zero, List.set_cons_succ]
            refine Mix.at_take (i := 15) (v := ?_) rfl (by kernel_rfl) (by kernel_rfl) (by kernel_rfl) (by kernel_rfl) (by kernel_rfl) (by kernel_rfl) (by kernel_rfl) (fun _ _ _ h => h) (Or.inl ⟨by rfl, ?_⟩) hS1 ?_
            rotate_left
            · intro w hSw
              go_simp
              try (with_reducible rfl)
            simp only [Act.put, List.getElem_toArray, List.getElem_cons_succ, List.getElem_cons_zero, List.setIfInBounds_toArray, List.set_cons_zero, List.set_cons_succ]
            refine Mix.at_take (i := 16) (v := ?_) rfl (by kernel_rfl) (by kernel_rfl) (by kernel_rfl) (by kernel_rfl) (by kernel_rfl) (by kernel_rfl) (by kernel_rfl) (fun _ _ _ h => h) (Or.inl ⟨by rfl, ?_⟩) hS1 ?_
            rotate_left
            · intro w hSw
              go_simp
              try (with_reducible rfl)
            simp only [Act.put, List.getElem_toArray, List.getElem_cons_succ, List.getElem_cons_zero, List.setIfInBounds_toArray, List.set_cons_zero, List.set_cons_succ]
            refine Mix.at_take (i := 17) (v := ?_) rfl (by kernel_rfl) (by kernel_rfl) (by kernel_rfl) (by kernel_rfl) (by kernel_rfl) (by kernel_rfl) (by kernel_rfl) (fun _ _ _ h => h) (Or.inl ⟨by rfl, ?_⟩) hS1 ?_
            rotate_left
            · intro w hSw
              go_simp
              try (with_reducible rfl)
            simp only [Act.put, List.getElem_toArray, List.getElem_cons_succ, List.getElem_cons_zero, List.setIfInBounds_toArray, List.set_cons_zero, List.set_cons_succ]
            refine Mix.at_step (i := 12) rfl (by kernel_rfl) (by kernel_rfl) (by rfl) ?_
            unfold Oper.wp
            go_simp
            have hcn := Holds.sel [_, _, _, _, _, _] HBD.out [4, 5] rfl
            simp only [pick, List.getElem?_cons_succ, List.getElem?_cons_zero, List.append_eq, List.cons_append, List.nil_append] at hcn
            refine (count w w.heap.size _ _ 33 S _ ⟨_, hcn⟩).mono ?_
            rintro e' wf ⟨rfl, rfl⟩
            rw [HNL.out.1]
            clear hcn
            refine ⟨hS1, ?_⟩
            refine Mix.at_take (i := 18) (v := ?_) rfl (by kernel_rfl) (by kernel_rfl) (by kernel_rfl) (by kernel_rfl) (by kernel_rfl) (by kernel_rfl) (by kernel_rfl) (fun _ _ _ h => h) (Or.inl ⟨by rfl, ?_⟩) hS1 ?_
            rotate_left
            · intro w hSw
              go_simp
              try (with_reducible rfl)
            simp only [Act.put, List.getElem_toArray, List.getElem_cons_succ, List.getElem_cons_zero, List.setIfInBounds_toArray, List.set_cons_zero, List.set_cons_succ]
            refine Mix.at_take (i := 19) (v := ?_) rfl (by kernel_rfl) (by kernel_rfl) (by kernel_rfl) (by kernel_rfl) (by kernel_rfl) (by kernel_rfl) (by kernel_rfl) (fun _ _ _ h => h) (Or.inl ⟨by rfl, ?_⟩) hS1 ?_
            rotate_left
            · intro w hSw
              go_simp
              try (with_reducible rfl)
            simp only [Act.put, List.getElem_toArray, List.getElem_cons_succ, List.getElem_cons_zero, List.setIfInBounds_toArray, List.set_cons_zero, List.set_cons_succ]
            refine Mix.at_take (i := 20) (v := ?_) rfl (by kernel_rfl) (by kernel_rfl) (by kernel_rfl) (by kernel_rfl) (by kernel_rfl) (by kernel_rfl) (by kernel_rfl) (fun _ _ _ h => h) (Or.inl ⟨by rfl, ?_⟩) hS1 ?_
            rotate_left
            · intro w hSw
              go_simp
              try (with_reducible rfl)
            simp only [Act.put, List.getElem_toArray, List.getElem_cons_succ, List.getElem_cons_zero, List.setIfInBounds_toArray, List.set_cons_zero, List.set_cons_succ]
            refine Mix.at_take (i := 21) (v := ?_) rfl (by kernel_rfl) (by kernel_rfl) (by kernel_rfl) (by kernel_rfl) (by kernel_rfl) (by kernel_rfl) (by kernel_rfl) (fun _ _ _ h => h) (Or.inl ⟨by rfl, ?_⟩) hS1 ?_
            rotate_left
            · intro w hSw
              go_simp
              try (with_reducible rfl)
            simp only [Act.put, List.getElem_toArray, List.getElem_cons_succ, List.getElem_cons_zero, List.setIfInBounds_toArray, List.set_cons_zero, List.set_cons_succ]
            refine Mix.at_take (i := 22) (v := ?_) rfl (by kernel_rfl) (by kernel_rfl) (by kernel_rfl) (by kernel_rfl) (by kernel_rfl) (by kernel_rfl) (by kernel_rfl) (fun _ _ _ h => h) (Or.inl ⟨by rfl, ?_⟩) hS1 ?_
            rotate_left
            · intro w hSw
              go_simp
              try (with_reducible rfl)
            simp only [Act.put, List.getElem_toArray, List.getElem_cons_succ, List.getElem_cons_zero, List.setIfInBounds_toArray, List.set_cons_zero, List.set_cons_succ]
            refine Mix.at_take (i := 23) (v := ?_) rfl (by kernel_rfl) (by kernel_rfl) (by kernel_rfl) (by kernel_rfl) (by kernel_rfl) (by kernel_rfl) (by kernel_rfl) (fun _ _ _ h => h) (Or.inl ⟨by rfl, ?_⟩) hS1 ?_
            rotate_left
            · intro w hSw
              go_simp
              try (with_reducible rfl)
            simp only [Act.put, List.getElem_toArray, List.getElem_cons_succ, List.getElem_cons_zero, List.setIfInBounds_toArray, List.set_cons_zero, List.set_cons_succ]
            refine Mix.at_take (i := 24) (v := ?_) rfl (by kernel_rfl) (by kernel_rfl) (by kernel_rfl) (by kernel_rfl) (by kernel_rfl) (by kernel_rfl) (by kernel_rfl) (fun _ _ _ h => h) (Or.inl ⟨by rfl, ?_⟩) hS1 ?_
            rotate_left
            · intro w hSw
              go_simp
              try (with_reducible rfl)
            simp only [Act.put, List.getElem_toArray, List.getElem_cons_succ, List.getElem_cons_zero, List.setIfInBounds_toArray, List.set_cons_zero, List.set_cons_succ]
            refine Mix.at_take (i := 25) (v := ?_) rfl (by kernel_rfl) (by kernel_rfl) (by kernel_rfl) (by kernel_rfl) (by kernel_rfl) (by kernel_rfl) (by kernel_rfl) (fun _ _ _ h => h) (Or.inl ⟨by rfl, ?_⟩) hS1 ?_
            rotate_left
            · intro w hSw
              go_simp
              try (with_reducible rfl)
            simp only [Act.put, List.getElem_toArray, List.getElem_cons_succ, List.getElem_cons_zero, List.setIfInBounds_toArray, List.set_cons_zero, List.set_cons_succ]
            refine Mix.at_take (i := 26) (v := ?_) rfl (by kernel_rfl) (by kernel_rfl) (by kernel_rfl) (by kernel_rfl) (by kernel_rfl) (by kernel_rfl) (by kernel_rfl) (fun _ _ _ h => h) (Or.inl ⟨by rfl, ?_⟩) hS1 ?_
            rotate_left
            · intro w hSw
              go_simp
              try (with_reducible rfl)
            simp only [Act.put, List.getElem_toArray, List.getElem_cons_succ, List.getElem_cons_zero, List.setIfInBounds_toArray, List.set_cons_zero, List.set_cons_succ]
            refine Mix.at_take (i := 27) (v := ?_) rfl (by kernel_rfl) (by kernel_rfl) (by kernel_rfl) (by kernel_rfl) (by kernel_rfl) (by kernel_rfl) (by kernel_rfl) (fun _ _ _ h => h) (Or.inl ⟨by rfl, ?_⟩) hS1 ?_
            rotate_left
            · intro w hSw
              go_simp
              try (with_reducible rfl)
            simp only [Act.put, List.getElem_toArray, List.getElem_cons_succ, List.getElem_cons_zero, List.setIfInBounds_toArray, List.set_cons_zero, List.set_cons_succ]
            refine Mix.at_take (i := 28) (v := ?_) rfl (by kernel_rfl) (by kernel_rfl) (by kernel_rfl) (by kernel_rfl) (by kernel_rfl) (by kernel_rfl) (by kernel_rfl) (fun _ _ _ h => h) (Or.inl ⟨by rfl, ?_⟩) hS1 ?_
            rotate_left
            · intro w hSw
              go_simp
              try (with_reducible rfl)
            simp only [Act.put, List.getElem_toArray, List.getElem_cons_succ, List.getElem_cons_zero, List.setIfInBounds_toArray, List.set_cons_zero, List.set_cons_succ]
            refine Mix.at_take (i := 29) (v := undef) rfl (by kernel_rfl) (by kernel_rfl) (by kernel_rfl) (by kernel_rfl) (by kernel_rfl) (by kernel_rfl) (by kernel_rfl) (fun _ _ _ h => h) (Or.inr ⟨by rfl, rfl⟩) hS1 ?_
            simp only [Act.put, List.getElem_toArray, List.getElem_cons_succ, List.getElem_cons_zero, List.setIfInBounds_toArray, List.set_cons_zero, List.set_cons_succ]
            refine Mix.at_take (i := 30) (v := undef) rfl (by kernel_rfl) (by kernel_rfl) (by kernel_rfl) (by kernel_rfl) (by kernel_rfl) (by kernel_rfl) (by kernel_rfl) (fun _ _ _ h => h) (Or.inr ⟨by rfl, rfl⟩) hS1 ?_
            simp only [Act.put, List.getElem_toArray, List.getElem_cons_succ, List.getElem_cons_zero, List.setIfInBounds_toArray, List.set_cons_zero, List.set_cons_succ]
            refine Mix.at_take (i := 31) (v := undef) rfl (by kernel_rfl) (by kernel_rfl) (by kernel_rfl) (by kernel_rfl) (by kernel_rfl) (by kernel_rfl) (by kernel_rfl) (fun _ _ _ h => h) (Or.inr ⟨by rfl, rfl⟩) hS1 ?_
            simp only [Act.put, List.getElem_toArray, List.getElem_cons_succ, List.getElem_cons_zero, List.setIfInBounds_toArray, List.set_cons_zero, List.set_cons_succ]
            refine Mix.at_take (i := 32) (v := undef) rfl (by kernel_rfl) (by kernel_rfl) (by kernel_rfl) (by kernel_rfl) (by kernel_rfl) (by kernel_rfl) (by kernel_rfl) (fun _ _ _ h => h) (Or.inr ⟨by rfl, rfl⟩) hS1 ?_
            simp only [Act.put, List.getElem_toArray, List.getElem_cons_succ, List.getElem_cons_zero, List.setIfInBounds_toArray, List.set_cons_zero, List.set_cons_succ]
            refine Mix.at_take (i := 33) (v := undef) rfl (by kernel_rfl) (by kernel_rfl) (by kernel_rfl) (by kernel_rfl) (by kernel_rfl) (by kernel_rfl) (by kernel_rfl) (fun _ _ _ h => h) (Or.inr ⟨by rfl, rfl⟩) hS1 ?_
            simp only [Act.put, List.getElem_toArray, List.getElem_cons_succ, List.getElem_cons_zero, List.setIfInBounds_toArray, List.set_cons_zero, List.set_cons_succ]
            refine Mix.at_take (i := 34) (v := undef) rfl (by kernel_rfl) (by kernel_rfl) (by kernel_rfl) (by kernel_rfl) (by kernel_rfl) (by kernel_rfl) (by kernel_rfl) (fun _ _ _ h => h) (Or.inr ⟨by rfl, rfl⟩) hS1 ?_
            simp only [Act.put, List.getElem_toArray, List.getElem_cons_succ, List.getElem_cons_zero, List.setIfInBounds_toArray, List.set_cons_zero, List.set_cons_succ]
            refine Mix.at_take (i := 35) (v := undef) rfl (by kernel_rfl) (by kernel_rfl) (by kernel_rfl) (by kernel_rfl) (by kernel_rfl) (by kernel_rfl) (by kernel_rfl) (fun _ _ _ h => h) (Or.inr ⟨by rfl, rfl⟩) hS1 ?_
            simp only [Act.put, List.getElem_toArray, List.getElem_cons_succ, List.getElem_cons_zero, List.setIfInBounds_toArray, List.set_cons_zero, List.set_cons_succ]
            refine Mix.at_take (i := 36) (v := undef) rfl (by kernel_rfl) (by kernel_rfl) (by kernel_rfl) (by kernel_rfl) (by kernel_rfl) (by kernel_rfl) (by kernel_rfl) (fun _ _ _ h => h) (Or.inr ⟨by rfl, rfl⟩) hS1 ?_
            simp only [Act.put, List.getElem_toArray, List.getElem_cons_succ, List.getElem_cons_zero, List.setIfInBounds_toArray, List.set_cons_zero, List.set_cons_succ]
            refine Mix.at_take (i := 37) (v := undef) rfl (by kernel_rfl) (by kernel_rfl) (by kernel_rfl) (by kernel_rfl) (by kernel_rfl) (by kernel_rfl) (by kernel_rfl) (fun _ _ _ h => h) (Or.inr ⟨by rfl, rfl⟩) hS1 ?_
            simp only [Act.put, List.getElem_toArray, List.getElem_cons_succ, List.getElem_cons_zero, List.setIfInBounds_toArray, List.set_cons_zero, List.set_cons_succ]
            refine Mix.at_take (i := 38) (v := undef) rfl (by kernel_rfl) (by kernel_rfl) (by kernel_rfl) (by kernel_rfl) (by kernel_rfl) (by kernel_rfl) (by kernel_rfl) (fun _ _ _ h => h) (Or.inr ⟨by rfl, rfl⟩) hS1 ?_
            simp only [Act.put, List.getElem_toArray, List.getElem_cons_succ, List.getElem_cons_zero, List.setIfInBounds_toArray, List.set_cons_zero, List.set_cons_succ]
            refine Mix.at_take (i := 39) (v := undef) rfl (by kernel_rfl) (by kernel_rfl) (by kernel_rfl) (by kernel_rfl) (by kernel_rfl) (by kernel_rfl) (by kernel_rfl) (fun _ _ _ h => h) (Or.inr ⟨by rfl, rfl⟩) hS1 ?_
            simp only [Act.put, List.getElem_toArray, List.getElem_cons_succ, List.getElem_cons_zero, List.setIfInBounds_toArray, List.set_cons_zero, List.set_cons_succ]
            refine Mix.at_take (i := 40) (v := ?_) rfl (by kernel_rfl) (by kernel_rfl) (by kernel_rfl) (by kernel_rfl) (by kernel_rfl) (by kernel_rfl) (by kernel_rfl) (fun _ _ _ h => h) (Or.inl ⟨by rfl, ?_⟩) hS1 ?_
            rotate_left
            · intro w hSw
              go_simp
              try (with_reducible rfl)
            simp only [Act.put, List.getElem_toArray, List.getElem_cons_succ, List.getElem_cons_zero, List.setIfInBounds_toArray, List.set_cons_zero, List.set_cons_succ]
            refine Mix.at_take (i := 41) (v := ?_) rfl (by kernel_rfl) (by kernel_rfl) (by kernel_rfl) (by kernel_rfl) (by kernel_rfl) (by kernel_rfl) (by kernel_rfl) (fun _ _ _ h => h) (Or.inl ⟨by rfl, ?_⟩) hS1 ?_
            rotate_left
            · intro w hSw
              go_simp
              try (with_reducible rfl)
            simp only [Act.put, List.getElem_toArray, List.getElem_cons_succ, List.getElem_cons_zero, List.setIfInBounds_toArray, List.set_cons_zero, List.set_cons_succ]
            refine Mix.at_tail _ rfl rfl (by kernel_rfl) ?_
            simp only [List.drop_succ_cons, List.drop_zero]
            clear hS1
            have hbel := HBD.out.below
            go_wp2_with fail
            go_ret
            exact ⟨rfl, hbel⟩
          · obtain ⟨Y, P, u1, u2, u3, u4, u5, u6, u7, u8, u9⟩ := not64 h64 HK.out.1 HX.out.1 HX.out.2
            rw [u1]
            have HU1 := Lib.hid u1
            clear u1 h64
            refine Mix.region 42 (fun _ => True) (by kernel_rfl) ?_
            simp only [List.size_toArray, List.length_cons, List.length_nil]
            have hS1 : True := trivial
            refine Mix.at_step (i := 0) rfl (by kernel_rfl) (by kernel_rfl) (by rfl) ?_
            unfold Oper.wp
            go_simp
            refine (awake06 w w.heap.size _ _ H10.out.drew).mono ?_
            rintro e' wa ⟨rfl, ha⟩
            have HA := Lib.hid ha
            clear ha
            skip
            refine Mix.at_take (i := 1) (v := ?_) rfl (by kernel_rfl) (by kernel_rfl) (by kernel_rfl) (by kernel_rfl) (by kernel_rfl) (by kernel_rfl) (by kernel_rfl) (fun _ _ _ h => h) (Or.inl ⟨by rfl, ?_⟩) hS1 ?_
            rotate_left
            · intro w hSw
              go_simp
              try (with_reducible rfl)
            simp only [Act.put, List.getElem_toArray, List.getElem_cons_succ, List.getElem_cons_zero, List.setIfInBounds_toArray, List.set_cons_zero, List.set_cons_succ]
            refine Mix.at_take (i := 2) (v := ?_) rfl (by kernel_rfl) (by kernel_rfl) (by kernel_rfl) (by kernel_rfl) (by kernel_rfl) (by kernel_rfl) (by kernel_rfl) (fun _ _ _ h => h) (Or.inl ⟨by rfl, ?_⟩) hS1 ?_
            rotate_left
            · intro w hSw
              go_simp
              try (with_reducible rfl)
            simp only [Act.put, List.getElem_toArray, List.getElem_cons_succ, List.getElem_cons_zero, List.setIfInBounds_toArray, List.set_cons_zero, List.set_cons_succ]
            refine Mix.at_take (i := 5) (v := ?_) rfl (by kernel_rfl) (by kernel_rfl) (by kernel_rfl) (by kernel_rfl) (by kernel_rfl) (by kernel_rfl) (by kernel_rfl) (fun _ _ _ h => h) (Or.inl ⟨by rfl, ?_⟩) hS1 ?_
            rotate_left
            · intro w hSw
              go_simp
              try (with_reducible rfl)
            simp only [Act.put, List.getElem_toArray, List.getElem_cons_succ, List.getElem_cons_zero, List.setIfInBounds_toArray, List.set_cons_zero, List.set_cons_succ]
            refine Mix.at_step (i := 3) rfl (by kernel_rfl) (by kernel_rfl) (by rfl) ?_
            unfold Oper.wp
            go_simp
            refine (bytes w w.heap.size _ _ 33 S _ ⟨_, HA.out⟩ HS9.out).mono ?_
            rintro e' wb ⟨v11, rfl, va11, hb⟩
            have hb2 := Holds.sel [_, _, _, _, _] hb [2, 3, 4, 0, 1] rfl
            simp only [pick, List.getElem?_cons_succ, List.getElem?_cons_zero, List.append_eq, List.cons_append, List.nil_append] at hb2
            obtain ⟨A11, c11, rfl⟩ := hb2.slice
            have hS1 : Rd wb (.slice A11 (nby S) c11) (nby S) (nums .u8 (pack S)) := hb2.rd
            have HBB := Lib.hid hb2
            clear hb hb2 HA
            skip
            refine Mix.at_strong (S' := fun w' => Rd w' (.slice A11 (nby S) c11) (nby S) (nums .u8 (pack S))) (fun _ _ => trivial) ?_
            refine Mix.at_take (i := 4) (v := ?_) rfl (by kernel_rfl) (by kernel_rfl) (by kernel_rfl) (by kernel_rfl) (by kernel_rfl) (by kernel_rfl) (by kernel_rfl) (fun _ _ _ h => h) (Or.inl ⟨by rfl, ?_⟩) hS1 ?_
            rotate_left
            · intro w hSw
              have hcv := string_of_reads (P := Try.prog) (c := c11) (src := 31) (dst := 9) Try.underlying31 Try.underlying5 Try.underlying9 (reads_of hSw (pack_length S) HNB.out)
              go_simp
              try (with_reducible rfl)
            simp only [Act.put, List.getElem_toArray, List.getElem_cons_succ, List.getElem_cons_zero, List.setIfInBounds_toArray, List.set_cons_zero, List.set_cons_succ]
            refine Mix.at_step (i := 6) rfl (by kernel_rfl) (by kernel_rfl) (by rfl) ?_
            unfold Oper.wp
            go_simp
            have hin := HBB.out
            have hin := Holds.sel [_, _, _, _, _] hin [1, 2, 0, 3, 4] rfl
            simp only [pick, List.getElem?_cons_succ, List.getElem?_cons_zero, List.append_eq, List.cons_append, List.nil_append] at hin
            rw [← HNL.out.1] at hin
            refine (bytes w w.heap.size _ _ 33 S _ ⟨_, hin⟩ HS9.out).mono ?_
            rintro e' wd ⟨v12, rfl, va12, hb⟩
            have hb2 := Holds.sel [_, _, _, _, _, _] hb [2] rfl
            have hb3 := Holds.sel [_, _, _, _, _, _] hb [3] rfl
            simp only [pick, List.getElem?_cons_succ, List.getElem?_cons_zero, List.append_eq, List.cons_append, List.nil_append] at hb2
            simp only [pick, List.getElem?_cons_succ, List.getElem?_cons_zero, List.append_eq, List.cons_append, List.nil_append] at hb3
            obtain ⟨A12, c12, rfl⟩ := hb2.slice
            have hS1 := hb3.rd
            have hS2 := hb2.rd
            have HBD := Lib.hid hb
            clear hb hb2 hb3 HBB hin
            refine ⟨hS1, ?_⟩
            refine Mix.at_strong (S' := fun w' => Rd w' (.slice A11 (nby S) c11) (nby S) (nums .u8 (pack S)) ∧ Rd w' (.slice A12 (nby S) c12) (nby S) (nums .u8 (pack S))) (fun _ h => h.1) ?_
            have hS1 := And.intro hS1 hS2
            clear hS2
            refine Mix.at_take (i := 7) (v := ?_) rfl (by kernel_rfl) (by kernel_rfl) (by kernel_rfl) (by kernel_rfl) (by kernel_rfl) (by kernel_rfl) (by kernel_rfl) (fun _ _ _ h => h) (Or.inl ⟨by rfl, ?_⟩) hS1 ?_
            rotate_left
            · intro w hSw
              have hcv := string_of_reads (P := Try.prog) (c := c12) (src := 31) (dst := 9) Try.underlying31 Try.underlying5 Try.underlying9 (reads_of hSw.2 (pack_length S) HNB.out)
              go_simp
              try (with_reducible rfl)
            simp only [Act.put, List.getElem_toArray, List.getElem_cons_succ, List.getElem_cons_zero, List.setIfInBounds_toArray, List.set_cons_zero, List.set_cons_succ]
            refine Mix.at_take (i := 8) (v := ?_) rfl (by kernel_rfl) (by kernel_rfl) (by kernel_rfl) (by kernel_rfl) (by kernel_rfl) (by kernel_rfl) (by kernel_rfl) (fun _ _ _ h => h) (Or.inl ⟨by rfl, ?_⟩) hS1 ?_
            rotate_left
            · intro w hSw
              go_simp
              try (with_reducible rfl)
            simp only [Act.put, List.getElem_toArray, List.getElem_cons_succ, List.getElem_cons_zero, List.setIfInBounds_toArray, List.set_cons_zero, List.set_cons_succ]
            refine Mix.at_take (i := 9) (v := ?_) rfl (by kernel_rfl) (by kernel_rfl) (by kernel_rfl) (by kernel_rfl) (by kernel_rfl) (by kernel_rfl) (by kernel_rfl) (fun _ _ _ h => h) (Or.inl ⟨by rfl, ?_⟩) hS1 ?_
            rotate_left
            · intro w hSw
              go_simp
              try (with_reducible rfl)
            simp only [Act.put, List.getElem_toArray, List.getElem_cons_succ, List.getElem_cons_zero, List.setIfInBounds_toArray, List.set_cons_zero, List.set_cons_succ]
            refine Mix.at_take (i := 10) (v := ?_) rfl (by kernel_rfl) (by kernel_rfl) (by kernel_rfl) (by kernel_rfl) (by kernel_rfl) (by kernel_rfl) (by kernel_rfl) (fun _ _ _ h => h) (Or.inl ⟨by rfl, ?_⟩) hS1 ?_
            rotate_left
            · intro w hSw
              go_simp
              try (with_reducible rfl)
            simp only [Act.put, List.getElem_toArray, List.getElem_cons_succ, List.getElem_cons_zero, List.setIfInBounds_toArray, List.set_cons_zero, List.set_cons_succ]
            refine Mix.at_take (i := 11) (v := ?_) rfl (by kernel_rfl) (by kernel_rfl) (by kernel_rfl) (by kernel_rfl) (by kernel_rfl) (by kernel_rfl) (by kernel_rfl) (fun _ _ _ h => h) (Or.inl ⟨by rfl, ?_⟩) hS1 ?_
            rotate_left
            · intro w hSw
              go_simp
              try (with_reducible rfl)
            simp only [Act.put, List.getElem_toArray, List.getElem_cons_succ, List.getElem_cons_zero, List.setIfInBounds_toArray, List.set_cons_zero, List.set_cons_succ]
            refine Mix.at_take (i := 13) (v := ?_) rfl (by kernel_rfl) (by kernel_rfl) (by kernel_rfl) (by kernel_rfl) (by kernel_rfl) (by kernel_rfl) (by kernel_rfl) (fun _ _ _ h => h) (Or.inl ⟨by rfl, ?_⟩) hS1 ?_
            rotate_left
            · intro w hSw
              go_simp
              try (with_reducible rfl)
            simp only [Act.put, List.getElem_toArray, List.getElem_cons_succ, List.getElem_cons_zero, List.setIfInBounds_toArray, List.set_cons_zero, List.set_cons_succ]
            refine Mix.at_take (i := 14) (v := ?_) rfl (by kernel_rfl) (by kernel_rfl) (by kernel_rfl) (by kernel_rfl) (by kernel_rfl) (by kernel_rfl) (by kernel_rfl) (fun _ _ _ h => h) (Or.inl ⟨by rfl, ?_⟩) hS1 ?_
            rotate_left
            · intro w hSw
              go_simp
              try (with_reducible rfl)
            simp only [Act.put, List.getElem_toArray, List.getElem_cons_succ, List.getElem_cons_zero, List.setIfInBounds_toArray, List.set_cons_zero, List.set_cons_succ]
            refine Mix.at_take (i := 15) (v := ?_) rfl (by kernel_rfl) (by kernel_rfl) (by kernel_rfl) (by kernel_rfl) (by kernel_rfl) (by kernel_rfl) (by kernel_rfl) (fun _ _ _ h => h) (Or.inl ⟨by rfl, ?_⟩) hS1 ?_
            rotate_left
            · intro w hSw
              go_simp
              try (with_reducible rfl)
            simp only [Act.put, List.getElem_toArray, List.getElem_cons_succ, List.getElem_cons_zero, List.setIfInBounds_toArray, List.set_cons_zero, List.set_cons_succ]
            refine Mix.at_take (i := 16) (v := ?_) rfl (by kernel_rfl) (by kernel_rfl) (by kernel_rfl) (by kernel_rfl) (by kernel_rfl) (by kernel_rfl) (by kernel_rfl) (fun _ _ _ h => h) (Or.inl ⟨by rfl, ?_⟩) hS1 ?_
            rotate_left
            · intro w hSw
              go_simp
              try (with_reducible rfl)
            simp only [Act.put, List.getElem_toArray, List.getElem_cons_succ, List.getElem_cons_zero, List.setIfInBounds_toArray, List.set_cons_zero, List.set_cons_succ]
            refine Mix.at_take (i := 17) (v := ?_) rfl (by kernel_rfl) (by kernel_rfl) (by kernel_rfl) (by kernel_rfl) (by kernel_rfl) (by kernel_rfl) (by kernel_rfl) (fun _ _ _ h => h) (Or.inl ⟨by rfl, ?_⟩) hS1 ?_
            rotate_left
            · intro w hSw
              go_simp
              try (with_reducible rfl)
            simp only [Act.put, List.getElem_toArray, List.getElem_cons_succ, List.getElem_cons_zero, List.setIfInBounds_toArray, List.set_cons_zero, List.set_cons_succ]
            refine Mix.at_step (i := 12) rfl (by kernel_rfl) (by kernel_rfl) (by rfl) ?_
            unfold Oper.wp
            go_simp
            have hcn := Holds.sel [_, _, _, _, _, _] HBD.out [4, 5] rfl
            simp only [pick, List.getElem?_cons_succ, List.getElem?_cons_zero, List.append_eq, List.cons_append, List.nil_append] at hcn
            refine (count w w.heap.size _ _ 33 S _ ⟨_, hcn⟩).mono ?_
            rintro e' wf ⟨rfl, rfl⟩
            rw [HNL.out.1]
            clear hcn
            refine ⟨hS1, ?_⟩
            refine Mix.at_take (i := 18) (v := ?_) rfl (by kernel_rfl) (by kernel_rfl) (by kernel_rfl) (by kernel_rfl) (by kernel_rfl) (by kernel_rfl) (by kernel_rfl) (fun _ _ _ h => h) (Or.inl ⟨by rfl, ?_⟩) hS1 ?_
            rotate_left
            · intro w hSw
              go_simp
              try (with_reducible rfl)
            simp only [Act.put, List.getElem_toArray, List.getElem_cons_succ, List.getElem_cons_zero, List.setIfInBounds_toArray, List.set_cons_zero, List.set_cons_succ]
            refine Mix.at_take (i := 19) (v := ?_) rfl (by kernel_rfl) (by kernel_rfl) (by kernel_rfl) (by kernel_rfl) (by kernel_rfl) (by kernel_rfl) (by kernel_rfl) (fun _ _ _ h => h) (Or.inl ⟨by rfl, ?_⟩) hS1 ?_
            rotate_left
            · intro w hSw
              go_simp
              try (with_reducible rfl)
            simp only [Act.put, List.getElem_toArray, List.getElem_cons_succ, List.getElem_cons_zero, List.setIfInBounds_toArray, List.set_cons_zero, List.set_cons_succ]
            refine Mix.at_take (i := 20) (v := ?_) rfl (by kernel_rfl) (by kernel_rfl) (by kernel_rfl) (by kernel_rfl) (by kernel_rfl) (by kernel_rfl) (by kernel_rfl) (fun _ _ _ h => h) (Or.inl ⟨by rfl, ?_⟩) hS1 ?_
            rotate_left
            · intro w hSw
              go_simp
              try (with_reducible rfl)
            simp only [Act.put, List.getElem_toArray, List.getElem_cons_succ, List.getElem_cons_zero, List.setIfInBounds_toArray, List.set_cons_zero, List.set_cons_succ]
            refine Mix.at_take (i := 21) (v := ?_) rfl (by kernel_rfl) (by kernel_rfl) (by kernel_rfl) (by kernel_rfl) (by kernel_rfl) (by kernel_rfl) (by kernel_rfl) (fun _ _ _ h => h) (Or.inl ⟨by rfl, ?_⟩) hS1 ?_
            rotate_left
            · intro w hSw
              go_simp
              try (with_reducible rfl)
            simp only [Act.put, List.getElem_toArray, List.getElem_cons_succ, List.getElem_cons_zero, List.setIfInBounds_toArray, List.set_cons_zero, List.set_cons_succ]
            refine Mix.at_take (i := 22) (v := ?_) rfl (by kernel_rfl) (by kernel_rfl) (by kernel_rfl) (by kernel_rfl) (by kernel_rfl) (by kernel_rfl) (by kernel_rfl) (fun _ _ _ h => h) (Or.inl ⟨by rfl, ?_⟩) hS1 ?_
            rotate_left
            · intro w hSw
              go_simp
              try (with_reducible rfl)
            simp only [Act.put, List.getElem_toArray, List.getElem_cons_succ, List.getElem_cons_zero, List.setIfInBounds_toArray, List.set_cons_zero, List.set_cons_succ]
            refine Mix.at_take (i := 23) (v := ?_) rfl (by kernel_rfl) (by kernel_rfl) (by kernel_rfl) (by kernel_rfl) (by kernel_rfl) (by kernel_rfl) (by kernel_rfl) (fun _ _ _ h => h) (Or.inl ⟨by rfl, ?_⟩) hS1 ?_
            rotate_left
            · intro w hSw
              go_simp
              try (with_reducible rfl)
            simp only [Act.put, List.getElem_toArray, List.getElem_cons_succ, List.getElem_cons_zero, List.setIfInBounds_toArray, List.set_cons_zero, List.set_cons_succ]
            refine Mix.at_take (i := 24) (v := undef) rfl (by kernel_rfl) (by kernel_rfl) (by kernel_rfl) (by kernel_rfl) (by kernel_rfl) (by kernel_rfl) (by kernel_rfl) (fun _ _ _ h => h) (Or.inr ⟨by rfl, rfl⟩) hS1 ?_
            simp only [Act.put, List.getElem_toArray, List.getElem_cons_succ, List.getElem_cons_zero, List.setIfInBounds_toArray, List.set_cons_zero, List.set_cons_succ]
            refine Mix.at_take (i := 25) (v := undef) rfl (by kernel_rfl) (by kernel_rfl) (by kernel_rfl) (by kernel_rfl) (by kernel_rfl) (by kernel_rfl) (by kernel_rfl) (fun _ _ _ h => h) (Or.inr ⟨by rfl, rfl⟩) hS1 ?_
            simp only [Act.put, List.getElem_toArray, List.getElem_cons_succ, List.getElem_cons_zero, List.setIfInBounds_toArray, List.set_cons_zero, List.set_cons_succ]
            refine Mix.at_take (i := 26) (v := undef) rfl (by kernel_rfl) (by kernel_rfl) (by kernel_rfl) (by kernel_rfl) (by kernel_rfl) (by kernel_rfl) (by kernel_rfl) (fun _ _ _ h => h) (Or.inr ⟨by rfl, rfl⟩) hS1 ?_
            simp only [Act.put, List.getElem_toArray, List.getElem_cons_succ, List.getElem_cons_zero, List.setIfInBounds_toArray, List.set_cons_zero, List.set_cons_succ]
            refine Mix.at_take (i := 27) (v := ?_) rfl (by kernel_rfl) (by kernel_rfl) (by kernel_rfl) (by kernel_rfl) (by kernel_rfl) (by kernel_rfl) (by kernel_rfl) (fun _ _ _ h => h) (Or.inl ⟨by rfl, ?_⟩) hS1 ?_
            rotate_left
            · intro w hSw
              go_simp
              try (with_reducible rfl)
            simp only [Act.put, List.getElem_toArray, List.getElem_cons_succ, List.getElem_cons_zero, List.setIfInBounds_toArray, List.set_cons_zero, List.set_cons_succ]
            refine Mix.at_take (i := 28) (v := ?_) rfl (by kernel_rfl) (by kernel_rfl) (by kernel_rfl) (by kernel_rfl) (by kernel_rfl) (by kernel_rfl) (by kernel_rfl) (fun _ _ _ h => h) (Or.inl ⟨by rfl, ?_⟩) hS1 ?_
            rotate_left
            · intro w hSw
              go_simp
              try (with_reducible rfl)
            simp only [Act.put, List.getElem_toArray, List.getElem_cons_succ, List.getElem_cons_zero, List.setIfInBounds_toArray, List.set_cons_zero, List.set_cons_succ]
            refine Mix.at_take (i := 29) (v := ?_) rfl (by kernel_rfl) (by kernel_rfl) (by kernel_rfl) (by kernel_rfl) (by kernel_rfl) (by kernel_rfl) (by kernel_rfl) (fun _ _ _ h => h) (Or.inl ⟨by rfl, ?_⟩) hS1 ?_
            rotate_left
            · intro w hSw
              go_simp
              try (with_reducible rfl)
            simp only [Act.put, List.getElem_toArray, List.getElem_cons_succ, List.getElem_cons_zero, List.setIfInBounds_toArray, List.set_cons_zero, List.set_cons_succ]
            refine Mix.at_take (i := 30) (v := ?_) rfl (by kernel_rfl) (by kernel_rfl) (by kernel_rfl) (by kernel_rfl) (by kernel_rfl) (by kernel_rfl) (by kernel_rfl) (fun _ _ _ h => h) (Or.inl ⟨by rfl, ?_⟩) hS1 ?_
            rotate_left
            · intro w hSw
              go_simp
              try (with_reducible rfl)
            simp only [Act.put, List.getElem_toArray, List.getElem_cons_succ, List.getElem_cons_zero, List.setIfInBounds_toArray, List.set_cons_zero, List.set_cons_succ]
            refine Mix.at_take (i := 31) (v := ?_) rfl (by kernel_rfl) (by kernel_rfl) (by kernel_rfl) (by kernel_rfl) (by kernel_rfl) (by kernel_rfl) (by kernel_rfl) (fun _ _ _ h => h) (Or.inl ⟨by rfl, ?_⟩) hS1 ?_
            rotate_left
            · intro w hSw
              go_simp
              try (with_reducible rfl)
            simp only [Act.put, List.getElem_toArray, List.getElem_cons_succ, List.getElem_cons_zero, List.setIfInBounds_toArray, List.set_cons_zero, List.set_cons_succ]
            refine Mix.at_take (i := 32) (v := ?_) rfl (by kernel_rfl) (by kernel_rfl) (by kernel_rfl) (by kernel_rfl) (by kernel_rfl) (by kernel_rfl) (by kernel_rfl) (fun _ _ _ h => h) (Or.inl ⟨by rfl, ?_⟩) hS1 ?_
            rotate_left
            · intro w hSw
              go_simp
              try (with_reducible rfl)
            simp only [Act.put, List.getElem_toArray, List.getElem_cons_succ, List.getElem_cons_zero, List.setIfInBounds_toArray, List.set_cons_zero, List.set_cons_succ]
            refine Mix.at_take (i := 33) (v := ?_) rfl (by kernel_rfl) (by kernel_rfl) (by kernel_rfl) (by kernel_rfl) (by kernel_rfl) (by kernel_rfl) (by kernel_rfl) (fun _ _ _ h => h) (Or.inl ⟨by rfl, ?_⟩) hS1 ?_
            rotate_left
            · intro w hSw
              go_simp
              try (with_reducible rfl)
            simp only [Act.put, List.getElem_toArray, List.getElem_cons_succ, List.getElem_cons_zero, List.setIfInBounds_toArray, List.set_cons_zero, List.set_cons_succ]
            refine Mix.at_take (i := 34) (v := ?_) rfl (by kernel_rfl) (by kernel_rfl) (by kernel_rfl) (by kernel_rfl) (by kernel_rfl) (by kernel_rfl) (by kernel_rfl) (fun _ _ _ h => h) (Or.inl ⟨by rfl, ?_⟩) hS1 ?_
            rotate_left
            · intro w hSw
              go_simp
              try (with_reducible rfl)
            simp only [Act.put, List.getElem_toArray, List.getElem_cons_succ, List.getElem_cons_zero, List.setIfInBounds_toArray, List.set_cons_zero, List.set_cons_succ]
            refine Mix.at_take (i := 35) (v := ?_) rfl (by kernel_rfl) (by kernel_rfl) (by kernel_rfl) (by kernel_rfl) (by kernel_rfl) (by kernel_rfl) (by kernel_rfl) (fun _ _ _ h => h) (Or.inl ⟨by rfl, ?_⟩) hS1 ?_
            rotate_left
            · intro w hSw
              go_simp
              try (with_reducible rfl)
            simp only [Act.put, List.getElem_toArray, List.getElem_cons_succ, List.getElem_cons_zero, List.setIfInBounds_toArray, List.set_cons_zero, List.set_cons_succ]
            refine Mix.at_take (i := 36) (v := ?_) rfl (by kernel_rfl) (by kernel_rfl) (by kernel_rfl) (by kernel_rfl) (by kernel_rfl) (by kernel_rfl) (by kernel_rfl) (fun _ _ _ h => h) (Or.inl ⟨by rfl, ?_⟩) hS1 ?_
            rotate_left
            · intro w hSw
              go_simp
              try (with_reducible rfl)
            simp only [Act.put, List.getElem_toArray, List.getElem_cons_succ, List.getElem_cons_zero, List.setIfInBounds_toArray, List.set_cons_zero, List.set_cons_succ]
            refine Mix.at_take (i := 37) (v := ?_) rfl (by kernel_rfl) (by kernel_rfl) (by kernel_rfl) (by kernel_rfl) (by kernel_rfl) (by kernel_rfl) (by kernel_rfl) (fun _ _ _ h => h) (Or.inl ⟨by rfl, ?_⟩) hS1 ?_
            rotate_left
            · intro w hSw
              go_simp
              try (with_reducible rfl)
            simp only [Act.put, List.getElem_toArray, List.getElem_cons_succ, List.getElem_cons_zero, List.setIfInBounds_toArray, List.set_cons_zero, List.set_cons_succ]
            refine Mix.at_take (i := 38) (v := ?_) rfl (by kernel_rfl) (by kernel_rfl) (by kernel_rfl) (by kernel_rfl) (by kernel_rfl) (by kernel_rfl) (by kernel_rfl) (fun _ _ _ h => h) (Or.inl ⟨by rfl, ?_⟩) hS1 ?_
            rotate_left
            · intro w hSw
              go_simp
              try (with_reducible rfl)
            simp only [Act.put, List.getElem_toArray, List.getElem_cons_succ, List.getElem_cons_zero, List.setIfInBounds_toArray, List.set_cons_zero, List.set_cons_succ]
            refine Mix.at_take (i := 39) (v := ?_) rfl (by kernel_rfl) (by kernel_rfl) (by kernel_rfl) (by kernel_rfl) (by kernel_rfl) (by kernel_rfl) (by kernel_rfl) (fun _ _ _ h => h) (Or.inl ⟨by rfl, ?_⟩) hS1 ?_
            rotate_left
            · intro w hSw
              go_simp
              try (with_reducible rfl)
            simp only [Act.put, List.getElem_toArray, List.getElem_cons_succ, List.getElem_cons_zero, List.setIfInBounds_toArray, List.set_cons_zero, List.set_cons_succ]
            refine Mix.at_take (i := 40) (v := ?_) rfl (by kernel_rfl) (by kernel_rfl) (by kernel_rfl) (by kernel_rfl) (by kernel_rfl) (by kernel_rfl) (by kernel_rfl) (fun _ _ _ h => h) (Or.inl ⟨by rfl, ?_⟩) hS1 ?_
            rotate_left
            · intro w hSw
              go_simp
              try (with_reducible rfl)
            simp only [Act.put, List.getElem_toArray, List.getElem_cons_succ, List.getElem_cons_zero, List.setIfInBounds_toArray, List.set_cons_zero, List.set_cons_succ]
            refine Mix.at_take (i := 41) (v := ?_) rfl (by kernel_rfl) (by kernel_rfl) (by kernel_rfl) (by kernel_rfl) (by kernel_rfl) (by kernel_rfl) (by kernel_rfl) (fun _ _ _ h => h) (Or.inl ⟨by rfl, ?_⟩) hS1 ?_
            rotate_left
            · intro w hSw
              go_simp
              try (with_reducible rfl)
            simp only [Act.put, List.getElem_toArray, List.getElem_cons_succ, List.getElem_cons_zero, List.setIfInBounds_toArray, List.set_cons_zero, List.set_cons_succ]
            refine Mix.at_tail _ rfl rfl (by kernel_rfl) ?_
            simp only [List.drop_succ_cons, List.drop_zero]
            clear hS1
            have hbel := HBD.out.below
            go_wp2_with fail
            go_ret
            exact ⟨rfl, hbel⟩

theorem bitsBy (w : World) (x : Int) (wf : (Lit.int .u64 x).wf = true) (n : Int) (wf2 : (Lit.int .u8 n).wf = true) (ahead : Int) (wf3 : (Lit.int .u8 ahead).wf = true) :
    Calls Try.prog 9 #[.int .u64 x, .int .u8 n, .int .u8 ahead] w fun e' w' => e' = .returned (.bool true) ∧ Below w.heap.size w w' := by
  simp [Lit.wf, IntKind.min, IntKind.max, IntKind.signed, IntKind.bits] at wf wf2 wf3
  exact bitsBy_core w x n ahead (by omega) (by omega) (by omega) (by omega) (by omega) (by omega)

end Go.Proofs.Ytioogmicdonbpaa.Wr
