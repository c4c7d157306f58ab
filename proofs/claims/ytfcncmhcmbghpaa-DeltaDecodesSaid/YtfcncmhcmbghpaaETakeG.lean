/- An entity taken on a base, of whatever bits; by the program. -/
import Derived.Test.YtfcncmhcmbghpaaTakeGP
import Derived.Test.YtfcncmhcmbghpaaWWords
set_option linter.unusedVariables false
set_option linter.unusedSimpArgs false
namespace Go.Proofs.Ytfcncmhcmbghpaa.Ents
open Go.Sort Go.RowKit Go.Proofs.Ytfcncmhcmbghpaa.Mem Go.Proofs.Ytfcncmhcmbghpaa.Open Go.Proofs.Ytfcncmhcmbghpaa.Num Go.Proofs.Ytfcncmhcmbghpaa.Step Go.Proofs.Ytfcncmhcmbghpaa.Wr Go.Proofs.Ytfcncmhcmbghpaa.Bits

theorem u64k6 (k : Nat) (h : k ≤ 6) : IntKind.u64.wrap (k : Int) = (k : Int) := by rw [wrap_u64]; omega

set_option maxHeartbeats 2000000 in
theorem etakeg (W w : World) (b1 : Nat) (t : TypeId) (BS : List Int) (at_ : Nat) (F : List Ent) (bs : Enty) (hw : HasR W W.heap.size w b1 t BS at_ false F) (hbk : bytesOk BS) (hat : at_ ≤ 8 * BS.length) :
    Calls Try.prog 27 #[.pointer (some ⟨b1, 0, none⟩), .agg #[.int .i64 bs.id, .int .i64 bs.kind, .int .i64 bs.x, .int .i64 bs.y, .int .i64 bs.vx, .int .i64 bs.vy, .int .i64 bs.hp, .int .i64 bs.wt]] w fun e' w' =>
      (∃ e n, takeE bs ((bitsB BS).drop at_) = some (e, n) ∧ at_ + n ≤ 8 * BS.length ∧ e' = .returned (.tuple #[.agg #[.int .i64 e.id, .int .i64 e.kind, .int .i64 e.x, .int .i64 e.y, .int .i64 e.vx, .int .i64 e.vy, .int .i64 e.hp, .int .i64 e.wt], .bool true]) ∧ HasR W W.heap.size w' b1 t BS (at_ + n) false F) ∨
      (takeE bs ((bitsB BS).drop at_) = none ∧ e' = .returned (.tuple #[.agg #[.int .i64 0, .int .i64 0, .int .i64 0, .int .i64 0, .int .i64 0, .int .i64 0, .int .i64 0, .int .i64 0], .bool false]) ∧ Holds W W.heap.size w' F) := by
  obtain ⟨v0, hH⟩ := hw
  have h1 := hH.alloc [.int .i64 bs.id, .int .i64 bs.kind, .int .i64 bs.x, .int .i64 bs.y, .int .i64 bs.vx, .int .i64 bs.vy, .int .i64 bs.hp, .int .i64 bs.wt] 29
  have h2 := h1.alloc [.int .i64 0, .int .i64 0, .int .i64 0, .int .i64 0, .int .i64 0, .int .i64 0, .int .i64 0, .int .i64 0] 29
  have hs1 : (w.alloc (.cells #[.int .i64 bs.id, .int .i64 bs.kind, .int .i64 bs.x, .int .i64 bs.y, .int .i64 bs.vx, .int .i64 bs.vy, .int .i64 bs.hp, .int .i64 bs.wt] 29)).heap.size = w.heap.size + 1 := by simp
  rw [hs1] at h2
  have hR : HasR W W.heap.size _ b1 t BS at_ false (.st w.heap.size [.int .i64 bs.id, .int .i64 bs.kind, .int .i64 bs.x, .int .i64 bs.y, .int .i64 bs.vx, .int .i64 bs.vy, .int .i64 bs.hp, .int .i64 bs.wt] 29 :: .st (w.heap.size + 1) [.int .i64 0, .int .i64 0, .int .i64 0, .int .i64 0, .int .i64 0, .int .i64 0, .int .i64 0, .int .i64 0] 29 :: F) := ⟨v0, h2.up1.up3.up3⟩
  have ht := rtake_any W W.heap.size _ b1 t BS at_ _ 6 hR hbk hat (by decide)
  rw [show ((6 : Nat) : Int) = 6 from rfl] at ht
  have HT := Lib.hid ht
  have HBK := Lib.hid hbk
  have HAT := Lib.hid hat
  clear h1 h2 hs1 hH hR ht hbk hat
  go_enter Try.func27, Try.ntmps27
  go_wp2_with fail
  refine HT.out.mono ?_
  rintro e' w2 ⟨mk, a0, fl, rfl, ⟨v2, h2⟩, hmk, ha0, hcase⟩
  have hmt := fun k => bit_test mk k (by omega)
  obtain ⟨M, hM⟩ : ∃ M, val mk = M := ⟨_, rfl⟩
  rw [hM] at hmt ⊢
  have hmr := val_range mk
  rw [hM, hmk] at hmr
  have z0 := h2.up2.cell 0 rfl
  have z1 := h2.up2.cell 1 rfl
  have z2 := h2.up2.cell 2 rfl
  have z3 := h2.up2.cell 3 rfl
  have z4 := h2.up2.cell 4 rfl
  have z5 := h2.up2.cell 5 rfl
  have z6 := h2.up2.cell 6 rfl
  have z7 := h2.up2.cell 7 rfl
  have h5 := holds_at (cs := [.int .i64 bs.x, .int .i64 bs.y, .int .i64 bs.vx, .int .i64 bs.vy, .int .i64 bs.hp, .int .i64 bs.wt]) (e := 66) ((h2.alloc' (.cells #[.int .i64 bs.id, .int .i64 bs.kind, .int .i64 bs.x, .int .i64 bs.y, .int .i64 bs.vx, .int .i64 bs.vy, .int .i64 bs.hp, .int .i64 bs.wt] 29)).alloc' (.cells #[.int .i64 bs.x, .int .i64 bs.y, .int .i64 bs.vx, .int .i64 bs.vy, .int .i64 bs.hp, .int .i64 bs.wt] 66)) (show w2.heap.size + 1 + 1 = _ by simp only [sz])
  have H5 := Lib.hid h5
  have hef := efields w2 bs
  have HEF := Lib.hid hef
  have HMT := Lib.hid hmt
  have HMK := Lib.hid hmk
  have HCASE := Lib.hid hcase
  have HA0 := Lib.hid ha0
  clear h2 h5 hef HT hmt hM hmk hcase ha0
  go_wp2_with fail
  refine HEF.out.mono ?_
  rintro e' w3 ⟨rfl, rfl⟩
  go_wp2_with fail
  clear z0 z1 z2 z3 z4 z5 z6 z7 HEF
  generalize ((w2.alloc (.cells #[.int .i64 bs.id, .int .i64 bs.kind, .int .i64 bs.x, .int .i64 bs.y, .int .i64 bs.vx, .int .i64 bs.vy, .int .i64 bs.hp, .int .i64 bs.wt] 29)).alloc (.cells #[.int .i64 bs.x, .int .i64 bs.y, .int .i64 bs.vx, .int .i64 bs.vy, .int .i64 bs.hp, .int .i64 bs.wt] 66)).alloc (.cells #[.int .i64 bs.x, .int .i64 bs.y, .int .i64 bs.vx, .int .i64 bs.vy, .int .i64 bs.hp, .int .i64 bs.wt] 66) = w4 at *
  generalize w2.heap.size + 1 + 1 = g at *
  go_loopw [15] (fun i wr => ∃ k : Nat, k ≤ 6 ∧ i = .int .i64 k ∧ ∃ (a n : Nat) (d : List Int), d.length = k ∧ a ≤ 8 * BS.length ∧ Hid (a = a0 + n) ∧ Hid (TG (takeGo mk (fiL bs) ((bitsB BS).drop a0)) (mk.drop k) ((fiL bs).drop k) (((bitsB BS).drop a0).drop n) d n) ∧
      HasR W W.heap.size wr b1 t BS a fl (.st g (i64s (d ++ (fiL bs).drop k)) 66 :: .st w.heap.size [.int .i64 bs.id, .int .i64 bs.kind, .int .i64 bs.x, .int .i64 bs.y, .int .i64 bs.vx, .int .i64 bs.vy, .int .i64 bs.hp, .int .i64 bs.wt] 29 :: .st (w.heap.size + 1) [.int .i64 0, .int .i64 0, .int .i64 0, .int .i64 0, .int .i64 0, .int .i64 0, .int .i64 0, .int .i64 0] 29 :: F))
    (fun i _ => 6 - (intOf i).toNat)
  case atStart => exact ⟨0, by decide, rfl, a0, 0, [], rfl, HA0.out, rfl, tg_start _ _ _, v2, H5.out.up2.up2⟩
  case round =>
    obtain ⟨k, hk, rfl, a, n, d, hd, ha, HAN, HTG, hR⟩ := hrel
    clear H5
    by_cases hkn : k < 6
    · have HTS := Lib.hid (succ_len k (show k < maxLen by unfold maxLen; omega))
      have k0 : (0 : Int) ≤ (k : Int) := by omega
      have k1 : (k : Int) < 6 := by omega
      have tk := u64k6 k hk
      have hmin : min k 64 = k := by omega
      have hk64 : k < 64 := by omega
      have hmt := HMT.out k
      have htg := HTG.out
      rw [fiL_at bs k hkn, getD_at mk k (by have := HMK.out; omega)] at htg
      rw [fiL_at bs k hkn] at hR
      have hcase := HCASE.out
      obtain ⟨bk, hbk⟩ : ∃ bk, mk.getD k false = bk := ⟨_, rfl⟩
      rw [hbk] at hmt htg
      cases bk with
      | false =>
        rw [Bool.not_false] at hmt
        have HQ := Lib.hid (tg_skip htg)
        have HR := Lib.hid hR
        clear htg hR hcase hbk HTG
        go_wp2_with fail
        try rw [HTS.out]
        refine ⟨⟨k + 1, by omega, cast_succ k, a, n, _, by rw [List.length_append, hd]; rfl, ha, HAN, HQ.out, ?_⟩, succ_less hkn⟩
        rw [← i64s_skip]
        exact HR.out
      | true =>
        rw [Bool.not_true] at hmt
        have hfl : fl = false := by
          rcases hcase with ⟨h, _⟩ | ⟨_, h, _⟩
          · exact h
          · rw [h] at hbk
            rw [List.getD_eq_getElem?_getD, List.getElem?_replicate] at hbk
            split at hbk <;> simp at hbk
        subst hfl
        have hsm := rsmallr W W.heap.size wr b1 t BS a _ hR HBK.out ha
        have hx6 : 6 ≤ ((bitsB BS).drop at_).length ∧ mk = ((bitsB BS).drop at_).take 6 ∧ (bitsB BS).drop a0 = ((bitsB BS).drop at_).drop 6 ∧ a0 = at_ + 6 := by
          rcases hcase with ⟨_, h1, h2, h3⟩ | ⟨h, _⟩
          · refine ⟨by rw [List.length_drop, bitsB_length]; omega, h2, by rw [h3, List.drop_drop], h3⟩
          · cases h
        have hpos : (bitsB BS).drop a = ((bitsB BS).drop a0).drop n := by rw [List.drop_drop, HAN.out]
        clear hcase hbk HTG
        cases hrs : readS 0 ((bitsB BS).drop a) with
        | none =>
          rw [gives_none hrs] at hsm
          have hno : takeE bs ((bitsB BS).drop at_) = none := takeE_bad (by rw [← hx6.2.1, ← hx6.2.2.1]; exact tg_none (by rw [← hpos]; exact hrs) htg)
          have HNO := Lib.hid hno
          have HSM := Lib.hid hsm
          clear hno hsm hrs hx6 hpos htg hR
          go_wp2_with fail
          refine HSM.out.mono ?_
          rintro e' w5 ⟨rfl, v5, h5⟩
          have H6 := Lib.hid h5
          clear h5 HSM
          have s0 := H6.out.up4
          have c0 := s0.cell 0 rfl
          have f0 := s0.frozen 0
          have s1 := s0.set 0 (.int .i64 0)
          have c1 := s1.cell 1 rfl
          have f1 := s1.frozen 1
          have s2 := s1.set 1 (.int .i64 0)
          have c2 := s2.cell 2 rfl
          have f2 := s2.frozen 2
          have s3 := s2.set 2 (.int .i64 0)
          have c3 := s3.cell 3 rfl
          have f3 := s3.frozen 3
          have s4 := s3.set 3 (.int .i64 0)
          have c4 := s4.cell 4 rfl
          have f4 := s4.frozen 4
          have s5 := s4.set 4 (.int .i64 0)
          have c5 := s5.cell 5 rfl
          have f5 := s5.frozen 5
          have s6 := s5.set 5 (.int .i64 0)
          have c6 := s6.cell 6 rfl
          have f6 := s6.frozen 6
          have s7 := s6.set 6 (.int .i64 0)
          have c7 := s7.cell 7 rfl
          have f7 := s7.frozen 7
          have s8 := s7.set 7 (.int .i64 0)
          simp only [List.set] at s8
          have S8 := Lib.hid s8
          clear s0 s1 s2 s3 s4 s5 s6 s7 s8
          go_wp2_with fail
          have hz := S8.out
          refine bodyPost_ret (Go.Proofs.YtfcncmhcmbghpaaW.PrintWords.results_ct rfl _ _ _ _ _ _ _ rfl hz.head.2 Try.underlying29 rfl (by kernel_rfl)) rfl ?_
          exact .inr ⟨HNO.out, rfl, hz.tail.tail.tail.tail.tail⟩
        | some p =>
          obtain ⟨u, k2⟩ := p
          rw [gives_some hrs] at hsm
          have hrd := readS_some _ _ 0 u k2 (Nat.le_refl _) hrs (by omega)
          by_cases h0 : unzig u = 0
          · have hno : takeE bs ((bitsB BS).drop at_) = none := takeE_bad (by rw [← hx6.2.1, ← hx6.2.2.1]; exact tg_zero (by rw [← hpos]; exact hrs) h0 htg)
            rw [h0] at hsm
            have HNO := Lib.hid hno
            have HSM := Lib.hid hsm
            clear hno hsm hrs hx6 hpos htg hR hrd h0
            go_wp2_with fail
            refine HSM.out.mono ?_
            rintro e' w5 ⟨rfl, v5, h5⟩
            have H6 := Lib.hid h5
            clear h5 HSM
            have s0 := H6.out.up4
            have c0 := s0.cell 0 rfl
            have f0 := s0.frozen 0
            have s1 := s0.set 0 (.int .i64 0)
            have c1 := s1.cell 1 rfl
            have f1 := s1.frozen 1
            have s2 := s1.set 1 (.int .i64 0)
            have c2 := s2.cell 2 rfl
            have f2 := s2.frozen 2
            have s3 := s2.set 2 (.int .i64 0)
            have c3 := s3.cell 3 rfl
            have f3 := s3.frozen 3
            have s4 := s3.set 3 (.int .i64 0)
            have c4 := s4.cell 4 rfl
            have f4 := s4.frozen 4
            have s5 := s4.set 4 (.int .i64 0)
            have c5 := s5.cell 5 rfl
            have f5 := s5.frozen 5
            have s6 := s5.set 5 (.int .i64 0)
            have c6 := s6.cell 6 rfl
            have f6 := s6.frozen 6
            have s7 := s6.set 6 (.int .i64 0)
            have c7 := s7.cell 7 rfl
            have f7 := s7.frozen 7
            have s8 := s7.set 7 (.int .i64 0)
            simp only [List.set] at s8
            have S8 := Lib.hid s8
            clear s0 s1 s2 s3 s4 s5 s6 s7 s8
            go_wp2_with fail
            have hz := S8.out
            refine bodyPost_ret (Go.Proofs.YtfcncmhcmbghpaaW.PrintWords.results_ct rfl _ _ _ _ _ _ _ rfl hz.head.2 Try.underlying29 rfl (by kernel_rfl)) rfl ?_
            exact .inr ⟨HNO.out, rfl, hz.tail.tail.tail.tail.tail⟩
          · have hq := tg_next (by rw [← hpos]; exact hrs) h0 htg
            rw [← drop_pos] at hq
            have ha3 : a + 8 * k2 ≤ 8 * BS.length := by
              have := congrArg List.length hrd.1
              rw [List.length_append, hrd.2.1, List.length_drop, bitsB_length] at this
              omega
            have t0 : (unzig u == 0) = false := beq_eq_false_iff_ne.2 h0
            obtain ⟨X, hX⟩ : ∃ X, unzig u = X := ⟨_, rfl⟩
            rw [hX] at hsm hq t0
            obtain ⟨Y, hY⟩ : ∃ Y, wrap64 (fi bs k + X) = Y := ⟨_, rfl⟩
            have hY2 : IntKind.i64.wrap (fi bs k + X) = Y := by rw [wrap_i64]; exact hY
            rw [hY] at hq
            have HQ := Lib.hid hq
            have HSM := Lib.hid hsm
            have HA3 := Lib.hid (show a + 8 * k2 = a0 + (n + 8 * k2) by rw [HAN.out]; omega)
            clear hq hsm hrs hx6 hpos htg hrd h0 hX hR
            subst hd
            go_wp2_with fail
            refine HSM.out.mono ?_
            rintro e' w5 ⟨rfl, v5, h5⟩
            have c0 := h5.up2.cell d.length (i64s_get d _ _)
            have f0 := h5.up2.frozen d.length
            have h6 := h5.up2.set d.length (.int .i64 Y)
            rw [i64s_set] at h6
            have H6 := Lib.hid h6.up2.up2
            clear h5 h6 HSM
            go_wp2_with fail
            try rw [HTS.out]
            exact ⟨⟨d.length + 1, by omega, cast_succ d.length, _, _, _, by rw [List.length_append]; rfl, ha3, HA3.out, HQ.out, v5, H6.out⟩, succ_less hkn⟩
    · obtain rfl : k = 6 := by omega
      obtain ⟨x0, x1, x2, x3, x4, x5, rfl⟩ := six_of hd
      have htg := HTG.out
      rw [show (fiL bs).drop 6 = [] from rfl, List.drop_eq_nil_of_le (show mk.length ≤ 6 by rw [HMK.out]; exact Nat.le_refl _)] at htg
      have hend := tg_end htg
      rw [show (fiL bs).drop 6 = [] from rfl, List.append_nil] at hR
      obtain ⟨v6, h6⟩ := hR
      have z0 := h6.up3.cell 0 rfl
      have z1 := h6.up3.cell 1 rfl
      have y0 := h6.up2.cell 0 rfl
      have y1 := h6.up2.cell 1 rfl
      have y2 := h6.up2.cell 2 rfl
      have y3 := h6.up2.cell 3 rfl
      have y4 := h6.up2.cell 4 rfl
      have y5 := h6.up2.cell 5 rfl
      have h7 := h6.alloc [.int .i64 bs.id, .int .i64 bs.kind, .int .i64 x0, .int .i64 x1, .int .i64 x2, .int .i64 x3, .int .i64 x4, .int .i64 x5] 29
      have hr := rok W W.heap.size _ b1 t BS _ fl _ ⟨v6, h7.up2.up2⟩
      have H7 := Lib.hid h7
      have HRO := Lib.hid hr
      have hf : ∀ w', Calls Try.prog 14 #[.agg #[.int .i64 bs.id, .int .i64 bs.kind, .int .i64 x0, .int .i64 x1, .int .i64 x2, .int .i64 x3, .int .i64 x4, .int .i64 x5]] w' fun e' w'' => e' = .returned (.bool (decide (EFrm ⟨bs.id, bs.kind, x0, x1, x2, x3, x4, x5⟩))) ∧ Below w'.heap.size w' w'' := fun w' => eformed w' ⟨bs.id, bs.kind, x0, x1, x2, x3, x4, x5⟩
      have HF := Lib.hid hf
      have q0 := H7.out.cell 0 rfl
      have q1 := H7.out.cell 1 rfl
      have q2 := H7.out.cell 2 rfl
      have q3 := H7.out.cell 3 rfl
      have q4 := H7.out.cell 4 rfl
      have q5 := H7.out.cell 5 rfl
      have q6 := H7.out.cell 6 rfl
      have q7 := H7.out.cell 7 rfl
      clear h6 h7 hr hf htg HTG
      rw [show ((6 : Nat) : Int) = 6 from rfl]
      have hcase := HCASE.out
      cases fl with
      | true =>
        have hno : takeE bs ((bitsB BS).drop at_) = none := takeE_short (by
          rcases hcase with ⟨h, _⟩ | ⟨_, _, h⟩
          · cases h
          · rw [List.length_drop, bitsB_length]; omega)
        have HNO := Lib.hid hno
        clear hcase hno
        go_wp2_with fail
        refine HRO.out.mono ?_
        rintro e' w7 ⟨rfl, rfl⟩
        have s0 := H7.out.up5
        have c0 := s0.cell 0 rfl
        have f0 := s0.frozen 0
        have s1 := s0.set 0 (.int .i64 0)
        have c1 := s1.cell 1 rfl
        have f1 := s1.frozen 1
        have s2 := s1.set 1 (.int .i64 0)
        have c2 := s2.cell 2 rfl
        have f2 := s2.frozen 2
        have s3 := s2.set 2 (.int .i64 0)
        have c3 := s3.cell 3 rfl
        have f3 := s3.frozen 3
        have s4 := s3.set 3 (.int .i64 0)
        have c4 := s4.cell 4 rfl
        have f4 := s4.frozen 4
        have s5 := s4.set 4 (.int .i64 0)
        have c5 := s5.cell 5 rfl
        have f5 := s5.frozen 5
        have s6 := s5.set 5 (.int .i64 0)
        have c6 := s6.cell 6 rfl
        have f6 := s6.frozen 6
        have s7 := s6.set 6 (.int .i64 0)
        have c7 := s7.cell 7 rfl
        have f7 := s7.frozen 7
        have s8 := s7.set 7 (.int .i64 0)
        simp only [List.set] at s8
        have S8 := Lib.hid s8
        clear s0 s1 s2 s3 s4 s5 s6 s7 s8
        go_wp2_with fail
        have hz := S8.out
        refine bodyPost_ret (Go.Proofs.YtfcncmhcmbghpaaW.PrintWords.results_ct rfl _ _ _ _ _ _ _ rfl hz.head.2 Try.underlying29 rfl (by kernel_rfl)) rfl ?_
        exact .inr ⟨HNO.out, rfl, hz.tail.tail.tail.tail.up1.tail.tail⟩
      | false =>
        have hx6 : 6 ≤ ((bitsB BS).drop at_).length ∧ mk = ((bitsB BS).drop at_).take 6 ∧ (bitsB BS).drop a0 = ((bitsB BS).drop at_).drop 6 ∧ a0 = at_ + 6 := by
          rcases hcase with ⟨_, h1, h2, h3⟩ | ⟨h, _⟩
          · refine ⟨by rw [List.length_drop, bitsB_length]; omega, h2, by rw [h3, List.drop_drop], h3⟩
          · cases h
        have hte := takeE_end (bs := bs) hx6.1 (by rw [← hx6.2.1, ← hx6.2.2.1]; exact hend)
        rw [show withL bs [x0, x1, x2, x3, x4, x5] = ⟨bs.id, bs.kind, x0, x1, x2, x3, x4, x5⟩ from rfl] at hte
        have hpos : a = at_ + (6 + n) := by rw [HAN.out, hx6.2.2.2]; omega
        have HPOS := Lib.hid hpos
        by_cases hfe : EFrm ⟨bs.id, bs.kind, x0, x1, x2, x3, x4, x5⟩
        · rw [if_pos hfe] at hte
          have HTE := Lib.hid hte
          have hf2 := HF.out
          rw [decide_eq_true hfe] at hf2
          have HF2 := Lib.hid hf2
          clear hte hfe hf2 HF hcase hx6 hpos hend
          go_wp2_with fail
          refine HRO.out.mono ?_
          rintro e' w7 ⟨rfl, rfl⟩
          go_wp2_with fail
          refine (HF2.out _).mono ?_
          rintro e' w8 ⟨rfl, h8⟩
          have h9 := Holds.belowed H7.out h8
          have p0 := h9.cell 0 rfl
          have p1 := h9.cell 1 rfl
          have p2 := h9.cell 2 rfl
          have p3 := h9.cell 3 rfl
          have p4 := h9.cell 4 rfl
          have p5 := h9.cell 5 rfl
          have p6 := h9.cell 6 rfl
          have p7 := h9.cell 7 rfl
          have s0 := h9.up5
          have c0 := s0.cell 0 rfl
          have f0 := s0.frozen 0
          have s1 := s0.set 0 (.int .i64 bs.id)
          have c1 := s1.cell 1 rfl
          have f1 := s1.frozen 1
          have s2 := s1.set 1 (.int .i64 bs.kind)
          have c2 := s2.cell 2 rfl
          have f2 := s2.frozen 2
          have s3 := s2.set 2 (.int .i64 x0)
          have c3 := s3.cell 3 rfl
          have f3 := s3.frozen 3
          have s4 := s3.set 3 (.int .i64 x1)
          have c4 := s4.cell 4 rfl
          have f4 := s4.frozen 4
          have s5 := s4.set 4 (.int .i64 x2)
          have c5 := s5.cell 5 rfl
          have f5 := s5.frozen 5
          have s6 := s5.set 5 (.int .i64 x3)
          have c6 := s6.cell 6 rfl
          have f6 := s6.frozen 6
          have s7 := s6.set 6 (.int .i64 x4)
          have c7 := s7.cell 7 rfl
          have f7 := s7.frozen 7
          have s8 := s7.set 7 (.int .i64 x5)
          simp only [List.set] at s8
          have S8 := Lib.hid s8
          clear s0 s1 s2 s3 s4 s5 s6 s7 s8
          clear h8 h9 q0 q1 q2 q3 q4 q5 q6 q7 y0 y1 y2 y3 y4 y5 z0 z1
          go_wp2_with fail
          have hz := S8.out
          refine bodyPost_ret (Go.Proofs.YtfcncmhcmbghpaaW.PrintWords.results_ct rfl _ _ _ _ _ _ _ rfl hz.head.2 Try.underlying29 rfl (by kernel_rfl)) rfl ?_
          refine .inl ⟨_, _, HTE.out, by rw [← HPOS.out]; exact ha, rfl, v6, ?_⟩
          rw [← HPOS.out]
          exact hz.tail.tail.up2.tail.up2.tail
        · rw [if_neg hfe] at hte
          have HNO := Lib.hid hte
          have hf2 := HF.out
          rw [decide_eq_false hfe] at hf2
          have HF2 := Lib.hid hf2
          clear hte hfe hf2 HF hcase hx6 hpos hend
          go_wp2_with fail
          refine HRO.out.mono ?_
          rintro e' w7 ⟨rfl, rfl⟩
          go_wp2_with fail
          refine (HF2.out _).mono ?_
          rintro e' w8 ⟨rfl, h8⟩
          have h9 := Holds.belowed H7.out h8
          have s0 := h9.up5
          have c0 := s0.cell 0 rfl
          have f0 := s0.frozen 0
          have s1 := s0.set 0 (.int .i64 0)
          have c1 := s1.cell 1 rfl
          have f1 := s1.frozen 1
          have s2 := s1.set 1 (.int .i64 0)
          have c2 := s2.cell 2 rfl
          have f2 := s2.frozen 2
          have s3 := s2.set 2 (.int .i64 0)
          have c3 := s3.cell 3 rfl
          have f3 := s3.frozen 3
          have s4 := s3.set 3 (.int .i64 0)
          have c4 := s4.cell 4 rfl
          have f4 := s4.frozen 4
          have s5 := s4.set 4 (.int .i64 0)
          have c5 := s5.cell 5 rfl
          have f5 := s5.frozen 5
          have s6 := s5.set 5 (.int .i64 0)
          have c6 := s6.cell 6 rfl
          have f6 := s6.frozen 6
          have s7 := s6.set 6 (.int .i64 0)
          have c7 := s7.cell 7 rfl
          have f7 := s7.frozen 7
          have s8 := s7.set 7 (.int .i64 0)
          simp only [List.set] at s8
          have S8 := Lib.hid s8
          clear s0 s1 s2 s3 s4 s5 s6 s7 s8 h8 h9 q0 q1 q2 q3 q4 q5 q6 q7 y0 y1 y2 y3 y4 y5 z0 z1
          go_wp2_with fail
          have hz := S8.out
          refine bodyPost_ret (Go.Proofs.YtfcncmhcmbghpaaW.PrintWords.results_ct rfl _ _ _ _ _ _ _ rfl hz.head.2 Try.underlying29 rfl (by kernel_rfl)) rfl ?_
          exact .inr ⟨HNO.out, rfl, hz.tail.tail.tail.tail.up1.tail.tail⟩

end Go.Proofs.Ytfcncmhcmbghpaa.Ents
