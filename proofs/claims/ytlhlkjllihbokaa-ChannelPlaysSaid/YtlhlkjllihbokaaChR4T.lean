/- The reference's Take of a number, by the program. -/
import Derived.Test.YtlhlkjllihbokaaChR4P
set_option linter.unusedVariables false
set_option linter.unusedSimpArgs false
namespace Go.Proofs.Ytlhlkjllihbokaa.R4
open Go.Sort Go.RowKit Go.Proofs.Ytlhlkjllihbokaa.Mem Go.Proofs.Ytlhlkjllihbokaa.Open Go.Proofs.Ytlhlkjllihbokaa.Num Go.Proofs.Ytlhlkjllihbokaa.Step Go.Proofs.Ytlhlkjllihbokaa.Ser Go.Proofs.YtlhlkjllihbokaaW.PrintWords

theorem hbelow {W w w' : World} {B : Nat} {H : List Ent} (h : Holds W B w H) (hb : Below w.heap.size w w') : Holds W B w' H :=
  h.same ⟨hb.os, hb.tape, hb.output, hb.size, fun k hk _ => hb.block k hk⟩
theorem back_facts {ol : Int} {j : Nat} (hj : j < 32) (h0 : 0 ≤ ol) (h1 : ol ≤ 65535) : ∃ s x : Int, ol - ((j : Int) + 1) = s ∧ IntKind.i64.wrap s = s ∧ IntKind.i64.wrap (s + 65536) = s + 65536 ∧ (s + 65536) % 65536 = x ∧ (s + 65536).tmod 65536 = x ∧ 0 ≤ x ∧ x ≤ 65535 ∧ IntKind.i64.wrap x = x ∧ IntKind.u16.wrap x = x ∧ 0 ≤ s + 65536 ∧ -100 ≤ s ∧ s ≤ 65535 ∧ backI ol j = x := by
  refine ⟨_, _, rfl, ?_, ?_, rfl, ?_, ?_⟩
  · rw [wrap_i64]; unfold wrap64; omega
  · rw [wrap_i64]; unfold wrap64; omega
  · rw [Int.tmod_eq_emod_of_nonneg (by omega)]
  · rw [wrap_i64, wrap_u16]; unfold wrap64 backI; omega
/-- The power that stands at bit j, as the code has it. -/
def one (j : Nat) : Nat := 2 ^ j % 4294967296
theorem one_facts {f : Nat → Bool} {j : Nat} (hj : j < 32) : ∃ M M1 o o1 : Nat, maskN f j = M ∧ maskN f (j + 1) = M1 ∧ one j = o ∧ one (j + 1) = o1 ∧ IntKind.u32.wrap ((o : Int) * 2) = (o1 : Int) ∧ (f j = true → IntKind.u32.wrap ((M : Int) + (o : Int)) = (M1 : Int)) ∧ (f j = false → M1 = M) := by
  have hlt := maskN_lt f j
  have hp : 2 ^ j ≤ 2 ^ 31 := Nat.pow_le_pow_right (by decide) (by omega)
  have h31 : (2 : Nat) ^ 31 = 2147483648 := by decide
  have ho : one j = 2 ^ j := by unfold one; omega
  refine ⟨_, _, _, _, rfl, rfl, rfl, rfl, ?_, fun h => ?_, fun h => ?_⟩
  · rw [wrap_u32, ho]
    unfold one
    rw [Nat.pow_succ]
    generalize 2 ^ j = q at *
    omega
  · rw [wrap_u32, ho]
    rw [show maskN f (j + 1) = maskN f j + (if f j then 2 ^ j else 0) from rfl, h, if_pos rfl]
    generalize 2 ^ j = q at *
    omega
  · rw [show maskN f (j + 1) = maskN f j + (if f j then 2 ^ j else 0) from rfl, h]
    simp
theorem fk_true1 {last mask n ol : Int} {j : Nat} {x : Int} (hx : backI ol j = x) (h : (x == n) = true) : fk last mask n ol j = true := by unfold fk; rw [hx, h]; rfl
theorem fk_far {last mask n ol : Int} {j : Nat} {x : Int} (hx : backI ol j = x) (h : (x == n) = false) (hf : farB last x = true) : fk last mask n ol j = false := by unfold fk; rw [hx, h, hf]; rfl
theorem fk_near {last mask n ol : Int} {j : Nat} {x : Int} {b : Bool} (hx : backI ol j = x) (h : (x == n) = false) (hf : farB last x = false) (hb : hasW ⟨true, last, mask⟩ x = b) : fk last mask n ol j = b := by unfold fk; rw [hx, h, hf, hb]; simp
theorem ol_range {last n : Int} (h0 : 0 ≤ last) (h1 : last ≤ 65535) (g0 : 0 ≤ n) (g1 : n ≤ 65535) : 0 ≤ outLast last n ∧ outLast last n ≤ 65535 := by unfold outLast; split <;> omega

set_option maxRecDepth 100000 in
set_option maxHeartbeats 4000000 in
theorem rtake (W : World) (any : Bool) (last mask n : Int) (h0 : 0 ≤ last) (h1 : last ≤ 65535) (g0 : 0 ≤ n) (g1 : n ≤ 65535) (hm0 : 0 ≤ mask) (hm1 : mask < 4294967296) :
    Calls Try.prog 50 #[.agg #[.bool any, .int .u16 last, .int .u32 mask], .int .u16 n] W fun e' w' => e' = .returned (.tuple #[(takeW ⟨any, last, mask⟩ n).1.val, .bool (takeW ⟨any, last, mask⟩ n).2]) ∧ Below W.heap.size W w' := by
  have h2 := ((Holds.start W).alloc [.bool any, .int .u16 last, .int .u32 mask] 80).alloc [.bool false, .int .u16 0, .int .u32 0] 80
  rw [show (W.alloc (.cells [Value.bool any, .int .u16 last, .int .u32 mask].toArray 80)).heap.size = W.heap.size + 1 by simp] at h2
  have e0 := h2.up1.cell 0 (v := .bool any) rfl
  have H2 := Lib.hid h2
  have HR := Lib.hid (And.intro h0 (And.intro h1 (And.intro g0 (And.intro g1 (And.intro hm0 hm1)))))
  cases any with
  | false =>
    have s0 := h2.set 0 (.bool true)
    have s1 := s0.set 1 (.int .u16 n)
    have s2 := s1.set 2 (.int .u32 0)
    have hz := (((Holds.start W).alloc [.bool false, .int .u16 last, .int .u32 mask] 80).alloc [.bool true, .int .u16 n, .int .u32 0] 80)
    rw [show (W.alloc (.cells [Value.bool false, .int .u16 last, .int .u32 mask].toArray 80)).heap.size = W.heap.size + 1 by simp] at hz
    have HZ := Lib.hid hz
    clear h2 s0 s1 s2 hz h0 h1 g0 g1 hm0 hm1 H2
    go_enter Try.func50, Try.ntmps50
    go_wp2_with fail
    have hz := HZ.out
    refine bodyPost_ret (Go.Proofs.YtlhlkjllihbokaaW.PrintWords.results_ct rfl _ _ _ _ _ _ _ rfl hz.head.2 Try.underlying80 rfl (by kernel_rfl)) rfl ?_
    rw [take_ref0]
    exact ⟨rfl, hz.below⟩
  | true =>
    have e1 := h2.up1.cell 1 (v := .int .u16 last) rfl
    have e2 := h2.up1.cell 2 (v := .int .u32 mask) rfl
    have ht := take_ref h0 h1 g0 g1 hm0 hm1
    have hh := rhas (any := true) (last := last) (mask := mask) (n := n) (h0 := h0) (h1 := h1) (g0 := g0) (g1 := g1) (hm0 := hm0) (hm1 := hm1)
    have hs := fun w => rsteps w last n h0 h1 g0 g1
    obtain ⟨d, hd⟩ : ∃ d, steps last n = d := ⟨_, rfl⟩
    rw [hd] at ht hs
    obtain ⟨hv, hhv⟩ : ∃ hv, hasW ⟨true, last, mask⟩ n = hv := ⟨_, rfl⟩
    rw [hhv] at ht hh
    have HH := Lib.hid hh
    have HS := Lib.hid hs
    have HT := Lib.hid ht
    have HD := Lib.hid (And.intro hd hhv)
    have hol := ol_range h0 h1 g0 g1
    obtain ⟨ol, holx⟩ : ∃ ol, outLast last n = ol := ⟨_, rfl⟩
    rw [holx] at hol
    have HOL := Lib.hid hol
    have HOX := Lib.hid holx
    have hsz : W.heap.size < (( W.alloc (.cells #[.bool true, .int .u16 last, .int .u32 mask] 80)).alloc (.cells #[.bool false, .int .u16 0, .int .u32 0] 80)).heap.size := h2.up1.lt
    clear h2 h0 h1 g0 g1 hm0 hm1 ht hh hs hd hhv hol holx
    go_enter Try.func50, Try.ntmps50
    go_wp2_with fail
    refine (HS.out _).mono ?_
    rintro e' w3 ⟨rfl, rfl⟩
    by_cases hc : d < -32
    · have t1 : decide (d < -32) = true := decide_eq_true hc
      have hz := (((Holds.start W).alloc [.bool true, .int .u16 last, .int .u32 mask] 80).alloc [.bool true, .int .u16 last, .int .u32 mask] 80)
      rw [show (W.alloc (.cells [Value.bool true, .int .u16 last, .int .u32 mask].toArray 80)).heap.size = W.heap.size + 1 by simp] at hz
      have HZ := Lib.hid hz
      clear hz
      go_wp2_with fail
      have hz := HZ.out
      refine bodyPost_ret (Go.Proofs.YtlhlkjllihbokaaW.PrintWords.results_ct rfl _ _ _ _ _ _ _ rfl hz.head.2 Try.underlying80 rfl (by kernel_rfl)) rfl ?_
      rw [HT.out, t1, if_pos (by rfl)]
      exact ⟨rfl, hz.below⟩
    · have t1 : decide (d < -32) = false := decide_eq_false hc
      go_wp2_with fail
      refine (HH.out _).mono ?_
      rintro e' w4 ⟨rfl, hb⟩
      have h4 := hbelow H2.out hb
      have e0 := h4.up1.cell 0 (v := .bool true) rfl
      have e1 := h4.up1.cell 1 (v := .int .u16 last) rfl
      have e2 := h4.up1.cell 2 (v := .int .u32 mask) rfl
      have hsz4 : W.heap.size < w4.heap.size := h4.up1.lt
      have hsz5 : W.heap.size + 1 < w4.heap.size := h4.lt
      have H4 := Lib.hid h4
      clear hb h4 hsz
      cases hv with
      | true =>
        have z0 := H4.out.cell 0 rfl
        have f0 := H4.out.frozen 0
        have s0 := H4.out.set 0 (.bool true)
        have z1 := s0.cell 1 rfl
        have f1 := s0.frozen 1
        have s1 := s0.set 1 (.int .u16 last)
        have z2 := s1.cell 2 rfl
        have f2 := s1.frozen 2
        have s2 := s1.set 2 (.int .u32 mask)
        simp only [List.set] at s2
        have S2 := Lib.hid s2
        clear s0 s1 s2 H4 H2
        go_wp2_with fail
        have hz := S2.out
        refine bodyPost_ret (Go.Proofs.YtlhlkjllihbokaaW.PrintWords.results_ct rfl _ _ _ _ _ _ _ rfl hz.head.2 Try.underlying80 rfl (by kernel_rfl)) rfl ?_
        rw [HT.out, if_pos (by simp)]
        exact ⟨rfl, hz.below⟩
      | false =>
        have ht := HT.out
        rw [if_neg (by rw [t1]; decide), HOX.out] at ht
        have HT2 := Lib.hid ht
        have hol : ol = if 0 < d then n else last := by rw [← HOX.out]; unfold outLast; rw [HD.out.1]
        have hA := H4.out.alloc [.bool true, .int .u16 last, .int .u32 0] 80
        have HA := Lib.hid hA
        have HOL2 := Lib.hid hol
        clear ht hA H4 H2 hol HT hc
        go_upto_if 33 with (fail)
        generalize w4.alloc (.cells #[.bool true, .int .u16 last, .int .u32 0] 80) = w5 at *
        obtain ⟨g7, hg7⟩ : ∃ g7, w4.heap.size = g7 := ⟨_, rfl⟩
        rw [hg7] at HA hsz4 hsz5
        rw [hg7]
        clear hg7 e0 e1 e2
        go_cut [7] from 32 (fun t7 wx => t7 = .pointer (some ⟨g7, 0, none⟩) ∧ Holds W W.heap.size wx (.st g7 [.bool true, .int .u16 ol, .int .u32 0] 80 :: .st (W.heap.size + 1) [.bool false, .int .u16 0, .int .u32 0] 80 :: .st W.heap.size [.bool true, .int .u16 last, .int .u32 mask] 80 :: []))
        case first =>
          by_cases hp : 0 < d
          · have t2 : decide (0 < d) = true := decide_eq_true hp
            have z1 := HA.out.cell 1 rfl
            have f1 := HA.out.frozen 1
            have hz := HA.out.set 1 (.int .u16 n)
            simp only [List.set] at hz
            have ho := HOL2.out
            rw [if_pos hp] at ho
            rw [← ho] at hz
            have HZ := Lib.hid hz
            have HO := Lib.hid ho
            clear hz ho
            go_wp2_with fail
            go_meet
            refine ⟨rfl, ?_⟩
            rw [← HO.out]
            exact HZ.out
          · have t2 : decide (0 < d) = false := decide_eq_false hp
            have ho := HOL2.out
            rw [if_neg hp] at ho
            have HO := Lib.hid ho
            clear ho
            go_wp2_with fail
            go_meet
            refine ⟨rfl, ?_⟩
            rw [HO.out]
            exact HA.out
        case rest =>
          obtain ⟨rfl, hc⟩ := hcut
          have HC := Lib.hid hc
          clear hc HA
          go_wp2_with fail
          go_loopw [8, 9] (fun ov kv wr => ∃ j : Nat, Hid (j ≤ 32) ∧ kv = .int .i64 ((j : Int) + 1) ∧ ov = .int .u32 ((one j : Nat) : Int) ∧ Hid (Holds W W.heap.size wr (.st g7 [.bool true, .int .u16 ol, .int .u32 ((maskN (fk last mask n ol) j : Nat) : Int)] 80 :: .st (W.heap.size + 1) [.bool false, .int .u16 0, .int .u32 0] 80 :: .st W.heap.size [.bool true, .int .u16 last, .int .u32 mask] 80 :: []))) (fun _ kv _ => 33 - (intOf kv).toNat)
          case atStart => exact ⟨0, Lib.hid (by decide), rfl, rfl, HC⟩
          case round =>
            obtain ⟨j, HJ0, rfl, rfl, HH7⟩ := hrel
            clear HC
            by_cases hj : j < 32
            · obtain ⟨s, x, b1, b2, b3, b4, b5, b6, b7, b8, b9, b10, b11, b12, hbx⟩ := back_facts hj HOL.out.1 HOL.out.2
              obtain ⟨M, M1, o, o1, hM, hM1, ho, ho1, hmul, hadd, hsame⟩ := one_facts (f := fk last mask n ol) hj
              obtain ⟨j1, j2, j3⟩ := j_facts hj
              obtain ⟨l1, l2⟩ := u16_facts HOL.out.1 HOL.out.2
              have hsx := fun w => rsteps w last x HR.out.1 HR.out.2.1 b6 b7
              have hhx := rhas (any := true) (last := last) (mask := mask) (n := x) (h0 := HR.out.1) (h1 := HR.out.2.1) (g0 := b6) (g1 := b7) (hm0 := HR.out.2.2.2.2.1) (hm1 := HR.out.2.2.2.2.2)
              obtain ⟨sx, hsxe⟩ : ∃ sx, steps last x = sx := ⟨_, rfl⟩
              obtain ⟨hv, hhv⟩ : ∃ hv, hasW ⟨true, last, mask⟩ x = hv := ⟨_, rfl⟩
              rw [hsxe] at hsx
              rw [hhv] at hhx
              rw [hM] at HH7
              rw [ho]
              have HJ := Lib.hid hj
              have HSX := Lib.hid hsx
              have HHX := Lib.hid hhx
              have HE := Lib.hid (And.intro hM1 ho1)
              have HF := Lib.hid (And.intro hbx (And.intro hadd hsame))
              have HV := Lib.hid (And.intro hsxe hhv)
              have q1 := HH7.out.cell 1 (v := .int .u16 ol) rfl
              have q2 := HH7.out.cell 2 (v := .int .u32 (M : Int)) rfl
              have qf := HH7.out.frozen 2
              have r0 := HH7.out.up2.cell 0 (v := .bool true) rfl
              have r1 := HH7.out.up2.cell 1 (v := .int .u16 last) rfl
              have r2 := HH7.out.up2.cell 2 (v := .int .u32 mask) rfl
              clear hbx hM hM1 ho ho1 hadd hsame hsx hhx hsxe hhv hj
              go_wp2_with fail
              refine (HSX.out _).mono ?_
              rintro e' w6 ⟨rfl, rfl⟩
              by_cases hs0 : 0 < sx
              · have t1 : decide (0 < sx) = true := decide_eq_true hs0
                have HFAR := Lib.hid (show farB last x = true by unfold farB; rw [HV.out.1]; simp [hs0])
                by_cases hxn : x = n
                · have t3 : (x == n) = true := by rw [hxn]; exact beq_self_eq_true n
                  have hk1 := fk_true1 (last := last) (mask := mask) HF.out.1 t3
                  have HK1 := Lib.hid hk1
                  clear hk1 hxn
                  have hw := HF.out.2.1 HK1.out
                  have hst := HH7.out.set 2 (.int .u32 (M1 : Int))
                  simp only [List.set] at hst
                  have HST := Lib.hid hst
                  clear hst HH7
                  go_wp2_with fail
                  refine ⟨⟨j + 1, HJ.out, by go_num, by rw [HE.out.2], ?_⟩, down33 HJ.out⟩
                  rw [HE.out.1]
                  exact HST
                · have t3 : (x == n) = false := beq_eq_false_iff_ne.2 hxn
                  have hk1 := fk_far (mask := mask) HF.out.1 t3 HFAR.out
                  have HK1 := Lib.hid hk1
                  clear hk1 hxn
                  have hw := HF.out.2.2 HK1.out
                  have HW := Lib.hid hw
                  clear hw
                  go_wp2_with fail
                  refine ⟨⟨j + 1, HJ.out, by go_num, by rw [HE.out.2], ?_⟩, down33 HJ.out⟩
                  rw [HE.out.1, HW.out]
                  exact HH7
              · have t1 : decide (0 < sx) = false := decide_eq_false hs0
                by_cases hs1 : sx < -32
                · have t2 : decide (sx < -32) = true := decide_eq_true hs1
                  have HFAR := Lib.hid (show farB last x = true by unfold farB; rw [HV.out.1]; simp [hs1])
                  by_cases hxn : x = n
                  · have t3 : (x == n) = true := by rw [hxn]; exact beq_self_eq_true n
                    have hk1 := fk_true1 (last := last) (mask := mask) HF.out.1 t3
                    have HK1 := Lib.hid hk1
                    clear hk1 hxn
                    go_wp2_with fail
                    refine (HSX.out _).mono ?_
                    rintro e' w7 ⟨rfl, rfl⟩
                    have hw := HF.out.2.1 HK1.out
                    have hst := HH7.out.set 2 (.int .u32 (M1 : Int))
                    simp only [List.set] at hst
                    have HST := Lib.hid hst
                    clear hst HH7
                    go_wp2_with fail
                    refine ⟨⟨j + 1, HJ.out, by go_num, by rw [HE.out.2], ?_⟩, down33 HJ.out⟩
                    rw [HE.out.1]
                    exact HST
                  · have t3 : (x == n) = false := beq_eq_false_iff_ne.2 hxn
                    have hk1 := fk_far (mask := mask) HF.out.1 t3 HFAR.out
                    have HK1 := Lib.hid hk1
                    clear hk1 hxn
                    go_wp2_with fail
                    refine (HSX.out _).mono ?_
                    rintro e' w7 ⟨rfl, rfl⟩
                    have hw := HF.out.2.2 HK1.out
                    have HW := Lib.hid hw
                    clear hw
                    go_wp2_with fail
                    refine ⟨⟨j + 1, HJ.out, by go_num, by rw [HE.out.2], ?_⟩, down33 HJ.out⟩
                    rw [HE.out.1, HW.out]
                    exact HH7
                · have t2 : decide (sx < -32) = false := decide_eq_false hs1
                  have HFAR := Lib.hid (show farB last x = false by unfold farB; rw [HV.out.1, t1, t2]; rfl)
                  by_cases hxn : x = n
                  · have t3 : (x == n) = true := by rw [hxn]; exact beq_self_eq_true n
                    have hk1 := fk_true1 (last := last) (mask := mask) HF.out.1 t3
                    have HK1 := Lib.hid hk1
                    clear hk1 hxn
                    go_wp2_with fail
                    refine (HSX.out _).mono ?_
                    rintro e' w7 ⟨rfl, rfl⟩
                    have hw := HF.out.2.1 HK1.out
                    have hst := HH7.out.set 2 (.int .u32 (M1 : Int))
                    simp only [List.set] at hst
                    have HST := Lib.hid hst
                    clear hst HH7
                    go_wp2_with fail
                    refine ⟨⟨j + 1, HJ.out, by go_num, by rw [HE.out.2], ?_⟩, down33 HJ.out⟩
                    rw [HE.out.1]
                    exact HST
                  · have t3 : (x == n) = false := beq_eq_false_iff_ne.2 hxn
                    have hk1 := fk_near (mask := mask) HF.out.1 t3 HFAR.out HV.out.2
                    have HK1 := Lib.hid hk1
                    clear hk1 hxn
                    go_wp2_with fail
                    refine (HSX.out _).mono ?_
                    rintro e' w7 ⟨rfl, rfl⟩
                    go_wp2_with fail
                    refine (HHX.out _).mono ?_
                    rintro e' w8 ⟨rfl, hb8⟩
                    have h8 := hbelow HH7.out hb8
                    clear HH7 hb8
                    have HH7 := Lib.hid h8
                    have q1 := h8.cell 1 (v := .int .u16 ol) rfl
                    have q2 := h8.cell 2 (v := .int .u32 (M : Int)) rfl
                    have qf := h8.frozen 2
                    clear h8
                    cases hv with
                    | true =>
                      have hw := HF.out.2.1 HK1.out
                      have hst := HH7.out.set 2 (.int .u32 (M1 : Int))
                      simp only [List.set] at hst
                      have HST := Lib.hid hst
                      clear hst HH7
                      go_wp2_with fail
                      refine ⟨⟨j + 1, HJ.out, by go_num, by rw [HE.out.2], ?_⟩, down33 HJ.out⟩
                      rw [HE.out.1]
                      exact HST
                    | false =>
                      have hw := HF.out.2.2 HK1.out
                      have HW := Lib.hid hw
                      clear hw
                      go_wp2_with fail
                      refine ⟨⟨j + 1, HJ.out, by go_num, by rw [HE.out.2], ?_⟩, down33 HJ.out⟩
                      rw [HE.out.1, HW.out]
                      exact HH7
            · obtain rfl : j = 32 := Nat.le_antisymm HJ0.out (Nat.le_of_not_lt hj)
              obtain ⟨M, hM⟩ : ∃ M, maskN (fk last mask n ol) 32 = M := ⟨_, rfl⟩
              rw [hM] at HH7
              have HM := Lib.hid hM
              have q0 := HH7.out.cell 0 (v := .bool true) rfl
              have q1 := HH7.out.cell 1 (v := .int .u16 ol) rfl
              have q2 := HH7.out.cell 2 (v := .int .u32 (M : Int)) rfl
              have z0 := HH7.out.up1.cell 0 rfl
              have f0 := HH7.out.up1.frozen 0
              have s0 := HH7.out.up1.set 0 (.bool true)
              have z1 := s0.cell 1 rfl
              have f1 := s0.frozen 1
              have s1 := s0.set 1 (.int .u16 ol)
              have z2 := s1.cell 2 rfl
              have f2 := s1.frozen 2
              have s2 := s1.set 2 (.int .u32 (M : Int))
              simp only [List.set] at s2
              have S2 := Lib.hid s2
              clear s0 s1 s2 hj hM HH7
              go_wp2_with fail
              have hz := S2.out
              refine bodyPost_ret (Go.Proofs.YtlhlkjllihbokaaW.PrintWords.results_ct rfl _ _ _ _ _ _ _ rfl hz.head.2 Try.underlying80 rfl (by kernel_rfl)) rfl ?_
              rw [HT2.out, HM.out]
              exact ⟨rfl, hz.below⟩

end Go.Proofs.Ytlhlkjllihbokaa.R4
