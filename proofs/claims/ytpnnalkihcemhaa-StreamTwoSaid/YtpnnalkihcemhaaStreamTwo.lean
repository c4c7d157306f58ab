/- The law StreamTwo: between a sender and a receiver, whatever is lost, doubled and turned, the lines come in order, each once. For all scripts; no condition. Here: the walk. -/
import Derived.Test.YtpnnalkihcemhaaTwoS
set_option linter.unusedVariables false
set_option linter.unusedSimpArgs false
namespace Go.Proofs.Ytpnnalkihcemhaa.Str
open Go.Sort Go.RowKit Go.Deep Go.WideShapes Go.ChangeShapes Go.Proofs.Ytpnnalkihcemhaa.Mem Go.Proofs.Ytpnnalkihcemhaa.Open Go.Proofs.Ytpnnalkihcemhaa.Bits Go.Proofs.Ytpnnalkihcemhaa.Wr Go.Proofs.Ytpnnalkihcemhaa.Num Go.Proofs.Ytpnnalkihcemhaa.Step Go.Proofs.YtpnnalkihcemhaaW.PrintWords

theorem tot2_facts (tot : Int) (s : Nat) : ∃ x : Int, IntKind.i64.wrap (tot + (s : Int)) = x ∧ wrap64 (tot + (s : Int)) = x :=
  ⟨_, rfl, (wrap_i64 _).symm⟩
theorem q200 {Q : List ByteArray} {G V k : Nat} {Rs : List (List Bool)} (h : TInv Q G V Rs k) : Q.length + 1 ≤ maxLen ∧ (Q.length + 1) * 16 ≤ 140737488355328 ∧ Rs.length + 1 ≤ maxLen ∧ (Rs.length + 1) * 24 ≤ 140737488355328 ∧ V ≤ 1000 ∧ V ≤ 100000 ∧ Q.length ≤ 1000 := by
  obtain ⟨h1, h2, h3, h4, h5, h6, h7, h8⟩ := h
  unfold maxLen
  omega
theorem v_facts {Q : List ByteArray} {G V k : Nat} {Rs : List (List Bool)} (h : TInv Q G V Rs k) : ∃ D : Nat, Q.length - V = D ∧ IntKind.i64.wrap ((Q.length : Int) - (V : Int)) = (D : Int) ∧ wrap64 ((Q.length : Int) - (V : Int)) = (D : Int) ∧ (Q.length : Int) - (V : Int) = (D : Int) ∧ IntKind.i64.wrap (D : Int) = (D : Int) := by
  obtain ⟨h1, h2, h3, h4, h5, h6, h7, h8⟩ := h
  refine ⟨_, rfl, ?_⟩
  rw [wrap_i64, wrap_i64]
  unfold wrap64
  omega

theorem g_range {Q : List ByteArray} {G V k : Nat} {Rs : List (List Bool)} (h : TInv Q G V Rs k) : (0 : Int) ≤ (G : Int) ∧ (G : Int) < 4294967295 := by
  obtain ⟨h1, h2, h3, h4, h5, h6, h7, h8⟩ := h
  omega
theorem drop_fits' {Q : List ByteArray} (h : Good Q) (g : Nat) : Fits (Q.drop g) := fun t ht => (h t (List.mem_of_mem_drop ht)).2
theorem rd_mem {W w : World} {B : Nat} {H : List Ent} {v : Value} {e : TypeId} {n : Nat} {xs : List Value} (h : Holds W B w H) (hm : Ent.rw v e 1 n xs ∈ H) : Rd w v n xs := Rd.of_own (h.each (.rw v e 1 n xs) hm)
theorem TInv.come0 {Q : List ByteArray} {G V V' k : Nat} {Rs : List (List Bool)} (h : TInv Q G V Rs k) (h1 : V ≤ V') (h2 : V' ≤ Q.length) : TInv Q G V' Rs k := by
  obtain ⟨a1, a2, a3, a4, a5, a6, a7, a8⟩ := h
  exact ⟨a1, by omega, h2, a4, a5, a6, a7, a8⟩
theorem TInv.conf0 {Q : List ByteArray} {G V k : Nat} {Rs : List (List Bool)} (h : TInv Q G V Rs k) : TInv Q V V Rs k := by
  obtain ⟨h1, h2, h3, h4, h5, h6, h7, h8⟩ := h
  exact ⟨h1, Nat.le_refl _, h3, h4, h5, by omega, h7, fun R hR => (h8 R hR).on h2⟩
theorem rem_next {q G V V' j : Nat} (h : q - G ≤ 32 - 7 * j) (h6 : G + min (q - G) 7 ≤ V') (h1 : G ≤ V) (h2 : V ≤ q) : q - V' ≤ 32 - 7 * (j + 1) := by omega
theorem all_in {Q : List ByteArray} {G V k : Nat} {Rs : List (List Bool)} (h : Q.length - G ≤ 32 - 7 * 12) (hI : TInv Q G V Rs k) : Q.length - G = 0 ∧ V = Q.length := by
  obtain ⟨h1, h2, h3, h4, h5, h6, h7, h8⟩ := hI
  omega
theorem v_bounds {V : Nat} (h : V ≤ 1000) : (0 : Int) ≤ (V : Int) ∧ (V : Int) ≤ 100000 := by omega
theorem nby_small {R : List Bool} (h : R.length ≤ 4000) : nby R ≤ 100000000 := by unfold nby; omega
theorem out_len {Q out : List ByteArray} {G V V' k : Nat} {Rs : List (List Bool)} (h : V' = V + out.length) (h2 : V' ≤ Q.length) (hI : TInv Q G V Rs k) : V + out.length ≤ maxLen ∧ (V + out.length) * 16 ≤ 140737488355328 := by
  obtain ⟨h1, h2, h3, h4, h5, h6, h7, h8⟩ := hI
  unfold maxLen
  omega

set_option maxHeartbeats 4000000 in
set_option maxRecDepth 100000 in
theorem streamTwo_core (w : World) (v : Value) (ops : List POp) (hv : RdL w v 3 (ops.map POp.cells)) (hwf : ∀ o, o ∈ ops → o.wf) :
    Calls Try.prog 11 #[v] w fun e' w' => e' = .returned (.bool true) ∧ Below w.heap.size w w' := by
  obtain ⟨i0, hi, hz0, hz1, hz2⟩ := info_parts info_str
  obtain ⟨j0, hj, hy0, hy1, hy2⟩ := info_parts info_sl
  obtain ⟨A, c, rfl, hc, hm, hr⟩ := pops_at hv
  have HR := Lib.hid hr
  have HWF := Lib.hid hwf
  clear hr hm hc hv hwf
  by_cases hbig : 200 < ops.length
  · have tb : decide ((200 : Int) < (ops.length : Int)) = true := by simp; omega
    clear hbig
    go_enter Try.func11, Try.ntmps11
    go_wp2_with fail
    refine (awake16 _).mono ?_
    rintro e' w1 ⟨rfl, h1⟩
    go_wp2_with fail
    refine (awake16 _).mono ?_
    rintro e' w3 ⟨rfl, h4⟩
    go_wp2_with fail
    go_ret
    exact ⟨rfl, h1.trans (h4.mono h1.size)⟩
  · have tb : decide ((200 : Int) < (ops.length : Int)) = false := by simp; omega
    have HLN : Hid (ops.length ≤ 200) := Nat.le_of_not_lt hbig
    clear hbig
    go_enter Try.func11, Try.ntmps11
    go_wp2_with fail
    refine (awake16 _).mono ?_
    rintro e' w1 ⟨rfl, h1⟩
    have h2 := (Holds.belowed (Holds.start w) h1).alloc [.int .u32 0, .slice none 0 0] 65
    have h3 := h2.alloc [.int .u32 0] 85
    have hs : (w1.alloc (.cells [.int .u32 0, .slice none 0 0].toArray 65)).heap.size = w1.heap.size + 1 := by simp
    rw [hs] at h3
    obtain ⟨b1, hb1⟩ : ∃ b1, w1.heap.size = b1 := ⟨_, rfl⟩
    rw [hb1] at h3
    obtain ⟨b2, hb2⟩ : ∃ b2, b1 + 1 = b2 := ⟨_, rfl⟩
    rw [hb2] at h3
    have hq : TW w ((w1.alloc (.cells [.int .u32 0, .slice none 0 0].toArray 65)).alloc (.cells [.int .u32 0].toArray 85)) b1 b2 [] 0 0 (.slice none 0 0) (.slice none 0 0) (.slice none 0 0) [] :=
      ⟨.slice none 0 0, [], [], ((((h3.nilqu 9).up2).nilrow 25 1).nilrow 9 1 |>.nilrow 9 1).perm (List.perm_append_comm (l₁ := [_, _, _]) (l₂ := [_, _, _])), rfl, fun i R hi => by simp at hi⟩
    have HQ := Lib.hid hq
    clear h1 h2 h3 hs hq
    go_wp2_with fail
    try rw [hb1]
    try rw [hb2]
    clear hb1 hb2
    go_loopw [5, 6, 7, 8, 9] (fun vq vc vs n i wr => ∃ (k : Nat) (tot : Int) (Q : List ByteArray) (G V : Nat) (Rs : List (List Bool)), k ≤ ops.length ∧ i = .int .i64 k ∧ n = .int .i64 tot ∧ TInv Q G V Rs k ∧ TW w wr b1 b2 Q G V vq vc vs Rs) (fun _ _ _ _ i _ => ops.length - (intOf i).toNat)
    case atStart => exact ⟨0, 0, [], 0, 0, [], Nat.zero_le _, rfl, rfl, ⟨fun t ht => by simp at ht, by decide, by decide, by decide, by decide, by decide, by decide, fun R hR => by simp at hR⟩, HQ.out⟩
    case round =>
      obtain ⟨k, tot, Q, G, V, Rs, hk, rfl, rfl, hI, hS⟩ := hrel
      clear HQ
      obtain ⟨Aq, cq, rfl⟩ := hS.slq
      obtain ⟨Ac, cc, rfl⟩ := hS.slc
      obtain ⟨As, cs, rfl⟩ := hS.sls
      have HI := Lib.hid hI
      have HS := Lib.hid hS
      clear hI hS
      by_cases hkn : k < ops.length
      · obtain ⟨o, ho⟩ : ∃ o, ops[k]? = some o := ⟨_, List.getElem?_eq_getElem hkn⟩
        obtain ⟨b, off, rfl, hlt, d0, d1, d2⟩ := HR.out k o ho
        obtain ⟨okd, on, os⟩ := o
        dsimp only at d0 d1 d2
        obtain ⟨k0, k1, k2, k3⟩ := loop_facts hkn (Nat.le_trans HLN.out (by decide))
        obtain ⟨x, y1, y2⟩ := tot2_facts tot os.size
        have hbS := TW.below HS.out
        have e0 := (hbS.cell (p := ⟨b, off + k * 3, none⟩) hlt).trans d0
        have e1 := (hbS.cell (p := ⟨b, off + k * 3 + 1, none⟩) hlt).trans d1
        have e2 := (hbS.cell (p := ⟨b, off + k * 3 + 2, none⟩) hlt).trans d2
        have HK2 := Lib.hid k2
        have AC : Hid (∀ wx, Below w.heap.size w wx → wx.cell? ⟨b, off + k * 3 + 2, none⟩ = some (.string os)) := fun wx hb => (hb.cell (p := ⟨b, off + k * 3 + 2, none⟩) hlt).trans d2
        have HN1 : Hid (k + 1 ≤ 200) := Nat.le_trans hkn HLN.out
        have HMX := Lib.hid (q200 HI.out)
        clear d0 d1 d2 ho hbS k2 k3
        by_cases hx : 5000 < x
        · have t1 : decide ((5000 : Int) < x) = true := decide_eq_true hx
          go_wp2_with fail
          go_ret
          exact ⟨rfl, TW.below HS.out⟩
        · have t1 : decide ((5000 : Int) < x) = false := decide_eq_false hx
          by_cases hk1 : okd = 1
          · subst hk1
            go_upto_region 16 with (fail)
            clear y1 y2 e0 e1 hx t1
            obtain ⟨er, her⟩ : ∃ er, qerr (Q.drop G) os = er := ⟨_, rfl⟩
            have hq := tw_queue HS.out HI.out her
            have HQU := Lib.hid hq
            have HER := Lib.hid her
            clear hq her
            go_wp2_with fail
            refine HQU.out.mono ?_
            rintro e' w5 ⟨rfl, hbw, hsz, vS, vals, P, h5, hvl, hpp⟩
            have e2 := AC.out _ hbw
            have H5 := Lib.hid h5
            have HVL := Lib.hid hvl
            have HPP := Lib.hid hpp
            clear hbw hsz h5 hvl hpp HQU
            by_cases her0 : er = 0
            · subst her0
              obtain ⟨hin, hqn⟩ := HI.out.queue HN1.out HER.out
              have HIN := Lib.hid hin
              have h6 := H5.out
              rw [hqn] at h6
              have hown := h6.up3.own
              have H6 := Lib.hid h6
              clear hin hqn h6 H5
              go_wp2_with (at_builtin; refine wpList_append_own_at _ rfl (.tmp 66) (.tmp 72) 63 rfl w.heap.size 9 i0 (.string ByteArray.empty) 1 16 Try.underlying63 hi hz0 hz1 hz2 rfl (by decide) _ _ _ rfl (hown.alloc _) ⟨w5.heap.size, 0, none⟩ 1 1 [.string os] rfl rfl (cell_one_new _ _ _) ?c2 HMX.out.1 HMX.out.2.1 ?c5 ?_)
              case c2 => intro u hu; simp at hu; subst hu; rfl
              case c5 => exact le_al H6.out.size _
              intro v9 w9 ho hg _ hat
              have h9 := (H6.out.alloc' _).up3.grew ho hg (hat.imp (fun h => h) (fun h => ⟨_, h, by simp⟩))
              have hT := tw_queued h9 HI.out.2.2.1 HVL.out HPP.out
              have HT := Lib.hid hT
              clear ho hg hat hown h9 hT H6 e2
              go_wp2_with fail
              try rw [HK2.out]
              exact ⟨⟨k + 1, _, _, _, _, _, hkn, cast_succ k, rfl, HIN.out, HT.out⟩, succ_less hkn⟩
            · have t2 : (er == 0) = false := beq_eq_false_iff_ne.2 her0
              have hqn : qnext (Q.drop G) os = Q.drop G := if_neg (by rw [HER.out]; exact her0)
              have h6 := H5.out
              rw [hqn] at h6
              have hT : TW w w5 b1 b2 Q G V (.slice Aq Q.length cq) (.slice Ac V cc) (.slice As Rs.length cs) Rs := ⟨vS, vals, P, h6, HVL.out, HPP.out⟩
              have HT := Lib.hid hT
              clear her0 hqn h6 hT H5 e2
              go_wp2_with fail
              try rw [HK2.out]
              exact ⟨⟨k + 1, _, _, _, _, _, hkn, cast_succ k, rfl, HI.out.next HN1.out, HT.out⟩, succ_less hkn⟩
          · have q1 : (okd == 1) = false := beq_eq_false_iff_ne.2 hk1
            by_cases hk2 : okd = 2
            · subst hk2
              go_upto_region 19 with (fail)
              clear y1 y2 e0 e1 e2 hx t1
              obtain ⟨vS, vals, P, h0, hvl, hpp⟩ := HS.out
              have HVL := Lib.hid hvl
              have HPP := Lib.hid hpp
              have hI := HI.out
              obtain ⟨R, hR⟩ : ∃ R, [] ++ sendB (G : Int) (Q.drop G) (sendN (Q.drop G)) = R := ⟨_, rfl⟩
              have hin := hI.send HN1.out
              rw [show sendB (G : Int) (Q.drop G) (sendN (Q.drop G)) = R by rw [← hR, List.nil_append]] at hin
              have HIN := Lib.hid hin
              have hRl : R.length ≤ 4000 := Bun.len (hin.2.2.2.2.2.2.2 R (by simp))
              have HRL := Lib.hid hRl
              obtain ⟨bw, hbw⟩ : ∃ bw, wr.heap.size = bw := ⟨_, rfl⟩
              have hf := fresh h0 74
              rw [hbw] at hf
              obtain ⟨vw, hf⟩ := hf
              have hGb : (0 : Int) ≤ (G : Int) ∧ (G : Int) < 4294967295 := g_range hI
              have hp := sput w w.heap.size _ b1 bw _ (G : Int) (Q.drop G) _ [] hGb.1 hGb.2 (drop_fits' hI.1 G) ⟨vS, vw, hf⟩ (by decide)
              rw [hR] at hp
              have HP := Lib.hid hp
              clear hvl hpp hI hR hin hRl hf h0 hGb hp
              go_wp2_with fail
              try rw [hbw]
              clear hbw
              refine HP.out.mono ?_
              rintro e' w5 ⟨rfl, v5, h5⟩
              have hp := Wr.bytes _ _ _ _ _ _ _ h5 (Nat.le_trans HRL.out (by decide))
              have HP2 := Lib.hid hp
              clear hp h5 HP
              go_wp2_with fail
              refine HP2.out.mono ?_
              rintro e' w6 ⟨vb, rfl, vw6, h6⟩
              have h7 := h6.tail.tail
              obtain ⟨Ab, cb, rfl⟩ := h7.slice
              have hown := h7.up6.own
              have H7 := Lib.hid h7
              clear h6 h7 HP2
              go_wp2_with (at_builtin; refine wpList_append_own_at _ rfl (.tmp 81) (.tmp 84) 27 rfl w.heap.size 25 j0 (.slice none 0 0) 1 24 Try.underlying27 hj hy0 hy1 hy2 rfl (by decide) _ _ _ rfl (hown.alloc _) ⟨w6.heap.size, 0, none⟩ 1 1 [.slice Ab (nby R) cb] rfl rfl (cell_one_new _ _ _) ?c2 HMX.out.2.2.1 HMX.out.2.2.2.1 ?c5 ?_)
              case c2 => intro u hu; simp at hu; subst hu; rfl
              case c5 => exact le_al H7.out.size _
              intro v9 w9 ho hg _ hat
              have h9 := (H7.out.alloc' _).up6.grew ho hg (hat.imp (fun h => h) (fun h => ⟨_, h, by simp⟩))
              have hT := tw_sent h9 HVL.out HPP.out
              have HT := Lib.hid hT
              clear ho hg hat hown h9 hT H7
              go_wp2_with fail
              try rw [HK2.out]
              exact ⟨⟨k + 1, _, _, _, _, _, hkn, cast_succ k, rfl, HIN.out, HT.out⟩, succ_less hkn⟩
            · have q2 : (okd == 2) = false := beq_eq_false_iff_ne.2 hk2
              by_cases hk3 : okd = 3
              · subst hk3
                go_upto_region 23 with (fail)
                clear y1 y2 e0 e1 e2 hx t1
                by_cases hneg : on < 0
                · have t2 : decide (on < 0) = true := decide_eq_true hneg
                  go_wp2_with fail
                  try rw [HK2.out]
                  exact ⟨⟨k + 1, _, _, _, _, _, hkn, cast_succ k, rfl, HI.out.next HN1.out, HS.out⟩, succ_less hkn⟩
                · have t2 : decide (on < 0) = false := decide_eq_false hneg
                  by_cases hge : (Rs.length : Int) ≤ on
                  · have t3 : decide ((Rs.length : Int) ≤ on) = true := decide_eq_true hge
                    go_wp2_with fail
                    try rw [HK2.out]
                    exact ⟨⟨k + 1, _, _, _, _, _, hkn, cast_succ k, rfl, HI.out.next HN1.out, HS.out⟩, succ_less hkn⟩
                  · have t3 : decide ((Rs.length : Int) ≤ on) = false := decide_eq_false hge
                    obtain ⟨m, rfl⟩ := Int.eq_ofNat_of_zero_le (Int.not_lt.1 hneg)
                    have hml : m < Rs.length := by omega
                    obtain ⟨R, hRm⟩ : ∃ R, Rs[m]? = some R := ⟨_, List.getElem?_eq_getElem hml⟩
                    obtain ⟨vS, vals, P, h0, hvl, hpp⟩ := HS.out
                    obtain ⟨vi, hvi, hmem⟩ := hpp m R hRm
                    obtain ⟨gs, cs', he, _⟩ := h0.up5.row (Nat.lt_of_le_of_lt (Nat.zero_le _) hml)
                    simp only [Value.slice.injEq] at he
                    obtain ⟨rfl, _, rfl⟩ := he
                    have cm := (h0.up5.rcell m (by rw [Nat.mul_one]; exact hml)).trans hvi
                    have m0 : (0 : Int) ≤ (m : Int) := by omega
                    have m1 : (m : Int) < (Rs.length : Int) := by omega
                    have hrd : Rd wr vi (nby R) (nums .u8 (pack R)) := rd_mem h0 (List.mem_cons_of_mem _ (List.mem_cons_of_mem _ (List.mem_cons_of_mem _ (List.mem_cons_of_mem _ (List.mem_cons_of_mem _ (List.mem_cons_of_mem _ hmem))))))
                    rw [← pack_length R] at hrd
                    have hbun := HI.out.2.2.2.2.2.2.2 R (List.mem_of_getElem? hRm)
                    have hok : bytesOk (pack R) := ⟨by rw [pack_length]; exact nby_small hbun.len, pack_byte R⟩
                    have hp := rnew w w.heap.size wr _ vi (pack R) h0.up2 hrd hok
                    have HP := Lib.hid hp
                    have HOK := Lib.hid hok
                    obtain ⟨out, V', r1, r2, r3, r4, r5⟩ := hbun.recv HI.out.2.1 HI.out.2.2.1 HMX.out.2.2.2.2.2.1
                    have HR1 := Lib.hid r1
                    have HR2 := Lib.hid r2
                    have HR5 := Lib.hid r5
                    have HIN := Lib.hid (HI.out.come HN1.out r3 r4)
                    have HOL := Lib.hid (out_len r5 r4 HI.out)
                    have HVL := Lib.hid hvl
                    have HPP := Lib.hid hpp
                    clear h0 hvl hpp hvi hmem hRm hrd hbun hok hp r1 r2 r3 r4 r5 hml hge hneg
                    go_wp2_with fail
                    refine HP.out.mono ?_
                    rintro e' w5 ⟨rb, rfl, h5⟩
                    have hp := rcv w w.heap.size w5 b2 rb (V : Int) (pack R) _ h5 HOK.out (by omega) (by have := HMX.out.2.2.2.2.2.1; omega)
                    rw [HR1.out] at hp
                    dsimp only at hp
                    have HP2 := Lib.hid hp
                    clear hp h5 HP cm
                    go_wp2_with fail
                    refine HP2.out.mono ?_
                    rintro e' w6 ⟨vo, rfl, h6⟩
                    obtain ⟨Ao, co, rfl, _⟩ := sslice h6.up1
                    have hrd := (ownsQ.rd (h6.up1).head)
                    rw [strs_length] at hrd
                    have hown := h6.up5.own
                    have H6 := Lib.hid h6
                    clear h6 HP2
                    go_wp2_with (at_builtin; refine wpList_append_rd rfl (.tmp 106) (.tmp 107) 63 rfl w.heap.size 9 i0 (.string ByteArray.empty) 16 Try.underlying63 hi hz0 hz1 hz2 rfl _ _ _ rfl hown _ _ _ rfl hrd (strs_length _) (one_str _) HOL.out.1 HOL.out.2 H6.out.size ?_)
                    intro v9 w9 ho hg hat
                    have h9 := H6.out.up5.grew ho hg (hat.imp (fun h => h) (fun h => ⟨_, h, Nat.le_refl _⟩))
                    have hT := tw_came h9 HR2.out HR5.out HVL.out HPP.out
                    have HT := Lib.hid hT
                    clear ho hg hat hown hrd h9 hT H6
                    go_wp2_with fail
                    try rw [HK2.out]
                    exact ⟨⟨k + 1, _, _, _, _, _, hkn, cast_succ k, rfl, HIN.out, HT.out⟩, succ_less hkn⟩
              · have q3 : (okd == 3) = false := beq_eq_false_iff_ne.2 hk3
                by_cases hk4 : okd = 4
                · subst hk4
                  go_upto_region 29 with (fail)
                  clear y1 y2 e0 e1 e2 hx t1
                  have hwa := tw_wants HS.out HMX.out.2.2.2.2.1
                  have hcf := tw_confirm HS.out HI.out
                  have HWA := Lib.hid hwa
                  have HCF := Lib.hid hcf
                  obtain ⟨D, z0, z1, z2, z3, z4⟩ := v_facts HI.out
                  have HD := Lib.hid z0
                  have tD : ((D : Int) != (D : Int)) = false := by simp
                  clear hwa hcf z0
                  go_wp2_with fail
                  refine HWA.out.mono ?_
                  rintro e' w4 ⟨rfl, rfl⟩
                  go_wp2_with fail
                  refine HCF.out.mono ?_
                  rintro e' w5 ⟨⟨r, rfl⟩, hT⟩
                  have hwt := tw_waits hT HD.out
                  have HWT := Lib.hid hwt
                  have HT := Lib.hid hT
                  clear hT hwt HCF HWA
                  go_wp2_with fail
                  refine HWT.out.mono ?_
                  rintro e' w6 ⟨rfl, rfl⟩
                  go_wp2_with fail
                  clear z1 z2 z3 z4
                  try rw [HK2.out]
                  exact ⟨⟨k + 1, _, _, _, _, _, hkn, cast_succ k, rfl, HI.out.conf HN1.out, HT.out⟩, succ_less hkn⟩
                · have q4 : (okd == 4) = false := beq_eq_false_iff_ne.2 hk4
                  go_wp2_with fail
                  try rw [HK2.out]
                  exact ⟨⟨k + 1, _, _, _, _, _, hkn, cast_succ k, rfl, HI.out.next HN1.out, HS.out⟩, succ_less hkn⟩
      · obtain rfl : k = ops.length := Nat.le_antisymm hk (Nat.le_of_not_lt hkn)
        have HG0 : Hid (Q.length - G ≤ 32 - 7 * 0) := HI.out.2.2.2.2.2.1
        go_wp2_with fail
        go_loopw [6, 14] (fun vc i wr => ∃ (j G V : Nat), j ≤ 12 ∧ i = .int .i64 j ∧ TInv Q G V Rs ops.length ∧ Q.length - G ≤ 32 - 7 * j ∧ TW w wr b1 b2 Q G V (.slice Aq Q.length cq) vc (.slice As Rs.length cs) Rs) (fun _ i _ => 12 - (intOf i).toNat)
        case atStart => exact ⟨0, G, V, by decide, rfl, HI.out, HG0.out, HS.out⟩
        case round =>
          obtain ⟨j, G, V, hj, rfl, hI, hrem, hT⟩ := hrel
          clear HS HI HG0
          obtain ⟨Ac, cc, rfl⟩ := hT.slc
          have HI := Lib.hid hI
          have HREM := Lib.hid hrem
          have HS := Lib.hid hT
          have HMX := Lib.hid (q200 hI)
          clear hI hrem hT
          by_cases hj12 : j < 12
          · obtain ⟨k0, k1, k2, _⟩ := loop_facts hj12 (by decide)
            have k1' : (j : Int) < 12 := k1
            have HK2 := Lib.hid k2
            obtain ⟨vS, vals, P, h0, hvl, hpp⟩ := HS.out
            have HVL := Lib.hid hvl
            have HPP := Lib.hid hpp
            have hI := HI.out
            obtain ⟨R, hR⟩ : ∃ R, [] ++ sendB (G : Int) (Q.drop G) (sendN (Q.drop G)) = R := ⟨_, rfl⟩
            have hfr := fresh_recv hI.2.1 hI.2.2.1 HMX.out.2.2.2.2.2.1 hI.1
            have hbn := Bun.new (G := G) (Nat.le_trans hI.2.1 hI.2.2.1) hI.1
            rw [show sendB (G : Int) (Q.drop G) (sendN (Q.drop G)) = R by rw [← hR, List.nil_append]] at hfr hbn
            obtain ⟨out, V', r1, r2, r3, r4, r5, r6⟩ := hfr
            have HR1 := Lib.hid r1
            have HR2 := Lib.hid r2
            have HR5 := Lib.hid r5
            have hin := (hI.come0 r3 r4)
            have HIN := Lib.hid hin
            have HREM2 := Lib.hid (rem_next HREM.out r6 hI.2.1 hI.2.2.1)
            have HOL := Lib.hid (out_len r5 r4 hI)
            have hRl : R.length ≤ 4000 := hbn.len
            have HRL := Lib.hid hRl
            obtain ⟨bw, hbw⟩ : ∃ bw, wr.heap.size = bw := ⟨_, rfl⟩
            have hf := fresh h0 74
            rw [hbw] at hf
            obtain ⟨vw, hf⟩ := hf
            have hGb : (0 : Int) ≤ (G : Int) ∧ (G : Int) < 4294967295 := g_range hI
            have hp := sput w w.heap.size _ b1 bw _ (G : Int) (Q.drop G) _ [] hGb.1 hGb.2 (drop_fits' hI.1 G) ⟨vS, vw, hf⟩ (by decide)
            rw [hR] at hp
            have HP := Lib.hid hp
            clear hvl hpp hI hR hin hRl hf h0 hGb hp hbn r1 r2 r3 r4 r5 r6 k2
            go_wp2_with fail
            try rw [hbw]
            clear hbw
            refine HP.out.mono ?_
            rintro e' w5 ⟨rfl, v5, h5⟩
            have hp := Wr.bytes _ _ _ _ _ _ _ h5 (Nat.le_trans HRL.out (by decide))
            have HP2 := Lib.hid hp
            clear hp h5 HP
            go_wp2_with fail
            refine HP2.out.mono ?_
            rintro e' w6 ⟨vb, rfl, vw6, h6⟩
            have hrd := h6.up2.rd
            rw [← pack_length R] at hrd
            have hok : bytesOk (pack R) := ⟨by rw [pack_length]; exact nby_small HRL.out, pack_byte R⟩
            have hp := rnew w w.heap.size w6 _ vb (pack R) h6.tail.tail.tail.up2 hrd hok
            have HP3 := Lib.hid hp
            have HOK := Lib.hid hok
            clear hp h6 hrd hok HP2
            go_wp2_with fail
            refine HP3.out.mono ?_
            rintro e' w7 ⟨rb, rfl, h7⟩
            have hp := rcv w w.heap.size w7 b2 rb (V : Int) (pack R) _ h7 HOK.out (v_bounds HMX.out.2.2.2.2.1).1 (v_bounds HMX.out.2.2.2.2.1).2
            rw [HR1.out] at hp
            dsimp only at hp
            have HP4 := Lib.hid hp
            clear hp h7 HP3
            go_wp2_with fail
            refine HP4.out.mono ?_
            rintro e' w8 ⟨vo, rfl, h8⟩
            obtain ⟨Ao, co, rfl, _⟩ := sslice h8.up1
            have hrd := (ownsQ.rd (h8.up1).head)
            rw [strs_length] at hrd
            have hown := h8.up5.own
            have H8 := Lib.hid h8
            clear h8 HP4
            go_wp2_with (at_builtin; refine wpList_append_rd rfl (.tmp 142) (.tmp 143) 63 rfl w.heap.size 9 i0 (.string ByteArray.empty) 16 Try.underlying63 hi hz0 hz1 hz2 rfl _ _ _ rfl hown _ _ _ rfl hrd (strs_length _) (one_str _) HOL.out.1 HOL.out.2 H8.out.size ?_)
            intro v9 w9 ho hg hat
            have h9 := H8.out.up5.grew ho hg (hat.imp (fun h => h) (fun h => ⟨_, h, Nat.le_refl _⟩))
            have hT := tw_came h9 HR2.out HR5.out HVL.out HPP.out
            have hwa := tw_wants hT (q200 HIN.out).2.2.2.2.1
            have hcf := tw_confirm hT HIN.out
            have HWA := Lib.hid hwa
            have HCF := Lib.hid hcf
            clear ho hg hat hown hrd h9 hT H8 hwa hcf
            go_wp2_with fail
            refine HWA.out.mono ?_
            rintro e' w10 ⟨rfl, rfl⟩
            go_wp2_with fail
            refine HCF.out.mono ?_
            rintro e' w11 ⟨⟨r, rfl⟩, hT⟩
            have HT := Lib.hid hT
            clear hT HWA HCF
            go_wp2_with fail
            try rw [HK2.out]
            exact ⟨⟨j + 1, V', V', hj12, cast_succ j, HIN.out.conf0, HREM2.out, HT.out⟩, succ_less hj12⟩
          · obtain rfl : j = 12 := Nat.le_antisymm hj (Nat.le_of_not_lt hj12)
            obtain ⟨g0, hVQ⟩ := all_in HREM.out HI.out
            subst hVQ
            have hwt := tw_waits HS.out g0
            have HWT := Lib.hid hwt
            obtain ⟨vS, vals, P, h0, hvl, hpp⟩ := HS.out
            have r1 := h0.up3.rd
            have r2 := h0.up4.rd
            rw [List.take_length] at r2
            have hsm := ssame wr _ _ Q r1 r2 HMX.out.2.2.2.2.2.2
            have hb := h0.below
            have HSM := Lib.hid hsm
            have HBB := Lib.hid (And.intro hb h0.size)
            clear hwt h0 hvl hpp r1 r2 hsm hb g0
            rw [show ((12 : Nat) : Int) = 12 from rfl]
            go_wp2_with fail
            refine HWT.out.mono ?_
            rintro e' w5 ⟨rfl, rfl⟩
            go_wp2_with fail
            refine HSM.out.mono ?_
            rintro e' w6 ⟨rfl, h6⟩
            go_wp2_with fail
            go_ret
            exact ⟨rfl, HBB.out.1.trans (h6.mono HBB.out.2)⟩

set_option maxRecDepth 100000 in
theorem streamTwo (w : World) {H : Type} {enc : TypeId × Value → H} {base base' : Nat} {sp : Nat → Bool} {held : Bool} {d : DataW H} {ps : List MemPlace} {r : Reach} (v : Value)
    (hok : Value.okWide Try.prog w r base' 99 v) (h : DataW.Trod enc Try.prog w base sp held 99 v d ps) :
    Calls Try.prog 11 #[v] w fun e' w' => e' = .returned (.bool true) ∧ Below w.heap.size w w' := by
  obtain ⟨l, hv, hwf⟩ := open_pops hok h
  exact streamTwo_core w v l hv hwf

end Go.Proofs.Ytpnnalkihcemhaa.Str
