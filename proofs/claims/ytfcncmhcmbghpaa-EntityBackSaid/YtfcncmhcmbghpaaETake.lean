/- An entity taken on a base, of bits that begin with what was put; by the program. -/
import Derived.Test.YtfcncmhcmbghpaaETakeP
import Derived.Test.YtfcncmhcmbghpaaWWords
set_option linter.unusedVariables false
set_option linter.unusedSimpArgs false
namespace Go.Proofs.Ytfcncmhcmbghpaa.Ents
open Go.Sort Go.RowKit Go.Proofs.Ytfcncmhcmbghpaa.Mem Go.Proofs.Ytfcncmhcmbghpaa.Open Go.Proofs.Ytfcncmhcmbghpaa.Num Go.Proofs.Ytfcncmhcmbghpaa.Step Go.Proofs.Ytfcncmhcmbghpaa.Wr Go.Proofs.Ytfcncmhcmbghpaa.Bits

theorem u64k (k : Nat) (h : k ≤ 6) : IntKind.u64.wrap (k : Int) = (k : Int) := by rw [wrap_u64]; omega

set_option maxHeartbeats 2000000 in
theorem etake (W w : World) (b1 : Nat) (t : TypeId) (BS : List Int) (at_ : Nat) (F : List Ent) (bs e : Enty) (tl : List Bool) (hw : HasR W W.heap.size w b1 t BS at_ false F) (hbk : bytesOk BS) (hat : at_ ≤ 8 * BS.length)
    (hfe : EFrm e) (hwe : e.wf) (hwb : bs.wf) (hid : bs.id = e.id) (hkd : bs.kind = e.kind) (hd : (bitsB BS).drop at_ = putB bs e ++ tl) :
    Calls Try.prog 27 #[.pointer (some ⟨b1, 0, none⟩), .agg #[.int .i64 bs.id, .int .i64 bs.kind, .int .i64 bs.x, .int .i64 bs.y, .int .i64 bs.vx, .int .i64 bs.vy, .int .i64 bs.hp, .int .i64 bs.wt]] w fun e' w' => e' = .returned (.tuple #[.agg #[.int .i64 e.id, .int .i64 e.kind, .int .i64 e.x, .int .i64 e.y, .int .i64 e.vx, .int .i64 e.vy, .int .i64 e.hp, .int .i64 e.wt], .bool true]) ∧ HasR W W.heap.size w' b1 t BS (at_ + (putB bs e).length) false F := by
  obtain ⟨v0, hH⟩ := hw
  have h1 := hH.alloc [.int .i64 bs.id, .int .i64 bs.kind, .int .i64 bs.x, .int .i64 bs.y, .int .i64 bs.vx, .int .i64 bs.vy, .int .i64 bs.hp, .int .i64 bs.wt] 29
  have h2 := h1.alloc [.int .i64 0, .int .i64 0, .int .i64 0, .int .i64 0, .int .i64 0, .int .i64 0, .int .i64 0, .int .i64 0] 29
  have hs1 : (w.alloc (.cells #[.int .i64 bs.id, .int .i64 bs.kind, .int .i64 bs.x, .int .i64 bs.y, .int .i64 bs.vx, .int .i64 bs.vy, .int .i64 bs.hp, .int .i64 bs.wt] 29)).heap.size = w.heap.size + 1 := by simp
  rw [hs1] at h2
  have hd1 : (bitsB BS).drop at_ = (List.range 6).flatMap (maskB bs e) ++ (restB bs e 0 ++ tl) := by rw [hd]; unfold putB; rw [rest_zero, List.append_assoc]
  have hdl := congrArg List.length hd1
  rw [List.length_drop, bitsB_length, List.length_append, mask_len] at hdl
  have hR : HasR W W.heap.size _ b1 t BS at_ false (.st w.heap.size [.int .i64 bs.id, .int .i64 bs.kind, .int .i64 bs.x, .int .i64 bs.y, .int .i64 bs.vx, .int .i64 bs.vy, .int .i64 bs.hp, .int .i64 bs.wt] 29 :: .st (w.heap.size + 1) [.int .i64 0, .int .i64 0, .int .i64 0, .int .i64 0, .int .i64 0, .int .i64 0, .int .i64 0, .int .i64 0] 29 :: F) := ⟨v0, h2.up1.up3.up3⟩
  have ht := rtake W W.heap.size _ b1 t BS at_ _ 6 hR hbk (by decide) (by decide) (by omega)
  rw [hd1, show ((6 : Int)).toNat = 6 from rfl, List.take_left' (mask_len bs e 6)] at ht
  have hd2 : (bitsB BS).drop (at_ + 6) = restB bs e 0 ++ tl := by rw [← List.drop_drop, hd1, List.drop_left' (mask_len bs e 6)]
  have hpl : (putB bs e).length = 6 + (restB bs e 0).length := by unfold putB; rw [List.length_append, mask_len, rest_zero]
  obtain ⟨M, hM⟩ : ∃ M, val ((List.range 6).flatMap (maskB bs e)) = M := ⟨_, rfl⟩
  rw [hM] at ht
  have hmr := maskV_range bs e
  have hmt := mask_test bs e
  unfold maskV at hmr hmt
  rw [hM] at hmr hmt
  have HT := Lib.hid ht
  have HMT := Lib.hid hmt
  have HD2 := Lib.hid hd2
  have HPL := Lib.hid hpl
  have HBK := Lib.hid hbk
  have HFE := Lib.hid hfe
  have HWE := Lib.hid hwe
  have HWB := Lib.hid hwb
  have HID := Lib.hid hid
  have HKD := Lib.hid hkd
  have hat2 : at_ + 6 ≤ 8 * BS.length := by omega
  clear h1 h2 hs1 hH hR ht hmt hM hd hd1 hdl hd2 hpl hbk hfe hwe hwb hid hkd
  go_enter Try.func27, Try.ntmps27
  go_wp2_with fail
  refine HT.out.mono ?_
  rintro e' w2 ⟨rfl, v2, h2⟩
  have z0 := h2.up2.cell 0 rfl
  have z1 := h2.up2.cell 1 rfl
  have z2 := h2.up2.cell 2 rfl
  have z3 := h2.up2.cell 3 rfl
  have z4 := h2.up2.cell 4 rfl
  have z5 := h2.up2.cell 5 rfl
  have z6 := h2.up2.cell 6 rfl
  have z7 := h2.up2.cell 7 rfl
  have h5 := holds_at (cs := [.int .i64 bs.x, .int .i64 bs.y, .int .i64 bs.vx, .int .i64 bs.vy, .int .i64 bs.hp, .int .i64 bs.wt]) (e := 66) ((h2.alloc' (.cells #[.int .i64 bs.id, .int .i64 bs.kind, .int .i64 bs.x, .int .i64 bs.y, .int .i64 bs.vx, .int .i64 bs.vy, .int .i64 bs.hp, .int .i64 bs.wt] 29)).alloc' (.cells #[.int .i64 bs.x, .int .i64 bs.y, .int .i64 bs.vx, .int .i64 bs.vy, .int .i64 bs.hp, .int .i64 bs.wt] 66)) (show w2.heap.size + 1 + 1 = _ by simp only [sz])
  have H5 := Lib.hid h5
  have hef := efields w2 bs
  have HEF := Lib.hid hef
  clear h2 h5 hef HT
  go_wp2_with fail
  refine HEF.out.mono ?_
  rintro e' w3 ⟨rfl, rfl⟩
  go_wp2_with fail
  clear z0 z1 z2 z3 z4 z5 z6 z7 HEF
  generalize ((w2.alloc (.cells #[.int .i64 bs.id, .int .i64 bs.kind, .int .i64 bs.x, .int .i64 bs.y, .int .i64 bs.vx, .int .i64 bs.vy, .int .i64 bs.hp, .int .i64 bs.wt] 29)).alloc (.cells #[.int .i64 bs.x, .int .i64 bs.y, .int .i64 bs.vx, .int .i64 bs.vy, .int .i64 bs.hp, .int .i64 bs.wt] 66)).alloc (.cells #[.int .i64 bs.x, .int .i64 bs.y, .int .i64 bs.vx, .int .i64 bs.vy, .int .i64 bs.hp, .int .i64 bs.wt] 66) = w4 at *
  generalize w2.heap.size + 1 + 1 = g at *
  go_loopw [15] (fun i wr => ∃ k : Nat, k ≤ 6 ∧ i = .int .i64 k ∧ ∃ a : Nat, a ≤ 8 * BS.length ∧ Hid ((bitsB BS).drop a = restB bs e k ++ tl) ∧ Hid (a + (restB bs e k).length = at_ + (putB bs e).length) ∧
      HasR W W.heap.size wr b1 t BS a false (.st g (fl bs e k) 66 :: .st w.heap.size [.int .i64 bs.id, .int .i64 bs.kind, .int .i64 bs.x, .int .i64 bs.y, .int .i64 bs.vx, .int .i64 bs.vy, .int .i64 bs.hp, .int .i64 bs.wt] 29 :: .st (w.heap.size + 1) [.int .i64 0, .int .i64 0, .int .i64 0, .int .i64 0, .int .i64 0, .int .i64 0, .int .i64 0, .int .i64 0] 29 :: F))
    (fun i _ => 6 - (intOf i).toNat)
  case atStart => exact ⟨0, by decide, rfl, at_ + 6, hat2, HD2.out, by have := HPL.out; exact (by omega : at_ + 6 + (restB bs e 0).length = at_ + (putB bs e).length), v2, by rw [fl_zero]; exact H5.out.up2.up2⟩
  case round =>
    obtain ⟨k, hk, rfl, a, ha, HD, HA, hR⟩ := hrel
    clear H5
    by_cases hkn : k < 6
    · have HTS := Lib.hid (succ_len k (show k < maxLen by unfold maxLen; omega))
      have k0 : (0 : Int) ≤ (k : Int) := by omega
      have k1 : (k : Int) < 6 := by omega
      have tk := u64k k hk
      have hmin : min k 64 = k := by omega
      have hk64 : k < 64 := by omega
      have hmt := HMT.out k hkn
      have hst := rest_step bs e k hkn
      have hdb : diffB bs e k = if fi bs k = fi e k then [] else smallB (zig (wrap64 (fi e k - fi bs k))).toNat := rfl
      have hdk := HD.out
      rw [hst, List.append_assoc] at hdk
      have hak := HA.out
      rw [hst, List.length_append] at hak
      have HR := Lib.hid hR
      clear hst hR
      by_cases hq : fi bs k = fi e k
      · rw [decide_eq_true hq] at hmt
        rw [if_pos hq] at hdb
        rw [hdb] at hdk hak
        have HDK := Lib.hid hdk
        have HAK := Lib.hid hak
        have HQ := Lib.hid hq
        clear hdk hak hq hdb
        go_wp2_with fail
        try rw [HTS.out]
        refine ⟨⟨k + 1, by omega, cast_succ k, a, ha, Lib.hid (by have := HDK.out; simpa using this), Lib.hid (by have := HAK.out; simpa using this), ?_⟩, succ_less hkn⟩
        rw [fl_same bs e k hkn HQ.out]
        exact HR.out
      · rw [decide_eq_false hq] at hmt
        rw [if_neg hq] at hdb
        rw [hdb] at hdk hak
        have hbk := diff_back (fi bs k) (fi e k) (fi_ok bs HWB.out k) (fi_ok e HWE.out k)
        have hwx := w64r (fi e k - fi bs k)
        obtain ⟨X, hX⟩ : ∃ X, wrap64 (fi e k - fi bs k) = X := ⟨_, rfl⟩
        rw [hX] at hdk hak hbk hwx
        have hsm := rsmallB W W.heap.size wr b1 t BS a _ X _ HR.out HBK.out hwx.1 hwx.2 ha hdk
        have hlen := congrArg List.length hdk
        rw [List.length_drop, bitsB_length, List.length_append] at hlen
        have hd3 : (bitsB BS).drop (a + (smallB (zig X).toNat).length) = restB bs e (k + 1) ++ tl := by rw [← List.drop_drop, hdk, List.drop_left]
        have t0 : (X == 0) = false := beq_eq_false_iff_ne.2 (hbk.2 hq)
        have ts1 : wrap64 (fi bs k + X) = fi e k := hbk.1
        have ts2 : IntKind.i64.wrap (fi bs k + X) = fi e k := by rw [wrap_i64]; exact hbk.1
        have HSM := Lib.hid hsm
        have HD3 := Lib.hid hd3
        have HAK := Lib.hid hak
        have ha3 : a + (smallB (zig X).toNat).length ≤ 8 * BS.length := by omega
        clear hsm hd3 hak hdk hlen hbk hwx hX hq hdb HR
        go_wp2_with fail
        refine HSM.out.mono ?_
        rintro e' w5 ⟨rfl, v5, h5⟩
        have c0 := h5.up2.cell k (fl_get bs e k hkn)
        have f0 := h5.up2.frozen k
        have h6 := h5.up2.set k (.int .i64 (fi e k))
        rw [fl_set bs e k hkn] at h6
        have H6 := Lib.hid h6.up2.up2
        clear h5 h6 HSM
        go_wp2_with fail
        try rw [HTS.out]
        exact ⟨⟨k + 1, by omega, cast_succ k, _, ha3, HD3.out, by have := HAK.out; exact (by omega : a + (smallB (zig X).toNat).length + (restB bs e (k + 1)).length = at_ + (putB bs e).length), v5, H6.out⟩, succ_less hkn⟩
    · obtain rfl : k = 6 := by omega
      have hak := HA.out
      rw [rest_six, List.length_nil, Nat.add_zero] at hak
      subst hak
      obtain ⟨v6, h6⟩ := hR
      rw [fl_six] at h6
      have z0 := h6.up3.cell 0 rfl
      have z1 := h6.up3.cell 1 rfl
      rw [HID.out] at z0
      rw [HKD.out] at z1
      have y0 := h6.up2.cell 0 rfl
      have y1 := h6.up2.cell 1 rfl
      have y2 := h6.up2.cell 2 rfl
      have y3 := h6.up2.cell 3 rfl
      have y4 := h6.up2.cell 4 rfl
      have y5 := h6.up2.cell 5 rfl
      have h7 := h6.alloc [.int .i64 e.id, .int .i64 e.kind, .int .i64 e.x, .int .i64 e.y, .int .i64 e.vx, .int .i64 e.vy, .int .i64 e.hp, .int .i64 e.wt] 29
      have hr := rok W W.heap.size _ b1 t BS _ false _ ⟨v6, h7.up2.up2⟩
      have H7 := Lib.hid h7
      have HRO := Lib.hid hr
      have hf : ∀ w', Calls Try.prog 14 #[.agg #[.int .i64 e.id, .int .i64 e.kind, .int .i64 e.x, .int .i64 e.y, .int .i64 e.vx, .int .i64 e.vy, .int .i64 e.hp, .int .i64 e.wt]] w' fun e' w'' => e' = .returned (.bool true) ∧ Below w'.heap.size w' w'' := fun w' => by
        have := eformed w' e
        rw [decide_eq_true HFE.out] at this
        exact this
      have HF := Lib.hid hf
      clear h6 h7 hr hf
      have q0 := H7.out.cell 0 rfl
      have q1 := H7.out.cell 1 rfl
      have q2 := H7.out.cell 2 rfl
      have q3 := H7.out.cell 3 rfl
      have q4 := H7.out.cell 4 rfl
      have q5 := H7.out.cell 5 rfl
      have q6 := H7.out.cell 6 rfl
      have q7 := H7.out.cell 7 rfl
      rw [show ((6 : Nat) : Int) = 6 from rfl]
      go_wp2_with fail
      refine HRO.out.mono ?_
      rintro e' w7 ⟨rfl, rfl⟩
      go_wp2_with fail
      refine (HF.out _).mono ?_
      rintro e' w8 ⟨rfl, h8⟩
      have h9 := Holds.belowed H7.out h8
      have p0 := h9.cell 0 rfl
      have p1 := h9.cell 1 rfl
      have p2 := h9.cell 2 rfl
      have p3 := h9.cell 3 rfl
      have p4 := h9.cell 4 rfl
      have p5 := h9.cell 5 rfl
      have p6 := h9.cell 6 rfl
      have p7 := h9.cell 7 rfl
      have s0 := h9.up5
      have c0 := s0.cell 0 rfl
      have f0 := s0.frozen 0
      have s1 := s0.set 0 (.int .i64 e.id)
      have c1 := s1.cell 1 rfl
      have f1 := s1.frozen 1
      have s2 := s1.set 1 (.int .i64 e.kind)
      have c2 := s2.cell 2 rfl
      have f2 := s2.frozen 2
      have s3 := s2.set 2 (.int .i64 e.x)
      have c3 := s3.cell 3 rfl
      have f3 := s3.frozen 3
      have s4 := s3.set 3 (.int .i64 e.y)
      have c4 := s4.cell 4 rfl
      have f4 := s4.frozen 4
      have s5 := s4.set 4 (.int .i64 e.vx)
      have c5 := s5.cell 5 rfl
      have f5 := s5.frozen 5
      have s6 := s5.set 5 (.int .i64 e.vy)
      have c6 := s6.cell 6 rfl
      have f6 := s6.frozen 6
      have s7 := s6.set 6 (.int .i64 e.hp)
      have c7 := s7.cell 7 rfl
      have f7 := s7.frozen 7
      have s8 := s7.set 7 (.int .i64 e.wt)
      simp only [List.set] at s8
      have S8 := Lib.hid s8
      clear s0 s1 s2 s3 s4 s5 s6 s7 s8 h8 h9 q0 q1 q2 q3 q4 q5 q6 q7 y0 y1 y2 y3 y4 y5 z0 z1
      go_wp2_with fail
      have hz := S8.out
      refine bodyPost_ret (Go.Proofs.YtfcncmhcmbghpaaW.PrintWords.results_ct rfl _ _ _ _ _ _ _ rfl hz.head.2 Try.underlying29 rfl (by kernel_rfl)) rfl ?_
      exact ⟨rfl, v6, hz.tail.tail.up2.tail.up2.tail⟩

end Go.Proofs.Ytfcncmhcmbghpaa.Ents
