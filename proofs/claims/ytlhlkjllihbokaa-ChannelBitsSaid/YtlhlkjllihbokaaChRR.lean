/- ref14.Read: what it answers of whatever bits. -/
import Derived.Test.YtlhlkjllihbokaaChRead
set_option linter.unusedVariables false
set_option linter.unusedSimpArgs false
namespace Go.Proofs.Ytlhlkjllihbokaa.Chan
open Go.Sort Go.RowKit Go.Proofs.Ytlhlkjllihbokaa.Mem Go.Proofs.Ytlhlkjllihbokaa.Open Go.Proofs.Ytlhlkjllihbokaa.Num Go.Proofs.Ytlhlkjllihbokaa.Step Go.Proofs.Ytlhlkjllihbokaa.Ser Go.Proofs.Ytlhlkjllihbokaa.Wr Go.Proofs.Ytlhlkjllihbokaa.Bits Go.Proofs.Ytlhlkjllihbokaa.RRd Go.Proofs.YtlhlkjllihbokaaW.PrintWords

theorem pos_dec {z : Nat} : decide ((0 : Int) < (z : Int)) = decide (0 < z) := by
  by_cases h : 0 < z
  · rw [decide_eq_true h, decide_eq_true (by omega)]
  · rw [decide_eq_false h, decide_eq_false (by omega)]
theorem z_pos {x3 x4 z : Nat} (h : z = x3 + x4) (h0 : 0 < z) : ¬ (x3 = 0 ∧ x4 = 0) := by omega
theorem z_zero {x3 x4 z : Nat} (h : z = x3 + x4) (h0 : ¬ 0 < z) : x3 = 0 ∧ x4 = 0 := by omega
theorem eqz {x2 : Nat} {any : Bool} (h : ((x2 : Int) == 1) = any) (h0 : x2 = 0 ∨ x2 = 1) : ((x2 : Int) == 0) = !any := by
  subst h
  rcases h0 with rfl | rfl <;> rfl
theorem dec_pos {z : Nat} (h : 0 < z) : decide ((0 : Int) < (z : Int)) = true ∧ (0 : Int) < (z : Int) := ⟨decide_eq_true (by omega), by omega⟩
theorem dec_zero {z : Nat} (h : ¬ 0 < z) : decide ((0 : Int) < (z : Int)) = false ∧ ¬ (0 : Int) < (z : Int) := ⟨decide_eq_false (by omega), by omega⟩

set_option maxRecDepth 100000 in
set_option maxHeartbeats 2000000 in
theorem rchread (W : World) (B : Nat) (w : World) (b : Nat) (L : List Bool) (F : List Ent) (hw : HasRR W B w b L 0 false F) (hl : L.length ≤ 1000000000) :
    Calls Try.prog 30 #[.pointer (some ⟨b, 0, none⟩)] w fun e' w' => ReadPost W B F L e' w' := by
  obtain ⟨v0, hH⟩ := hw
  have hx := (hH.alloc [.int .u16 0, .bool false, .int .u16 0, .int .u32 0] 65).up2.up2
  have ht := rrtake W B _ b L 0 false _ 16 ⟨v0, hx⟩ (Nat.zero_le _) hl (by decide)
  rw [show ((16 : Nat) : Int) = 16 from rfl] at ht
  have HT := Lib.hid ht
  have HL := Lib.hid hl
  clear hH hx ht hl
  go_enter Try.func30, Try.ntmps30
  go_wp2_with fail
  refine HT.out.mono ?_
  rintro e' w1 ⟨x1, a1, f1, rfl, h1, ha1, hx1, hc1⟩
  have far1 := far_next (L := L) (n := 0) (m := 16) (.inl ⟨rfl, rfl, Nat.zero_le _⟩) (by decide) ha1 (by rcases hc1 with ⟨x, _, z⟩ | h; exact .inl ⟨x, rfl, z⟩; exact .inr h)
  have ht := rrtake W B w1 b L a1 f1 _ 1 h1 ha1 HL.out (by decide)
  rw [show ((1 : Nat) : Int) = 1 from rfl] at ht
  have HT1 := Lib.hid ht
  have FAR1 := Lib.hid far1
  have HX1 := Lib.hid hx1
  clear ht h1 ha1 hc1 HT far1 hx1
  go_wp2_with fail
  refine HT1.out.mono ?_
  rintro e' w2 ⟨x2, a2, f2, rfl, h2, ha2, hx2, hc2⟩
  have far2 := far_next (L := L) (m := 1) FAR1.out.1 (by decide) ha2 hc2
  have ht := rrtake W B w2 b L a2 f2 _ 16 h2 ha2 HL.out (by decide)
  rw [show ((16 : Nat) : Int) = 16 from rfl] at ht
  have HT2 := Lib.hid ht
  have hf1 : f2 = false → f1 = false := by
    intro hf
    rcases hc2 with ⟨_, h, _⟩ | ⟨h, _⟩
    · exact h
    · rw [hf] at h; cases h
  have FAR2 := Lib.hid (And.intro far2 hf1)
  have HX2 := Lib.hid (flag_cases hx2)
  clear ht h2 ha2 hc2 HT1 far2 hf1 hx2
  go_wp2_with fail
  refine HT2.out.mono ?_
  rintro e' w3 ⟨x3, a3, f3, rfl, h3, ha3, hx3, hc3⟩
  have far3 := far_next (L := L) (m := 16) FAR2.out.1.1 (by decide) ha3 hc3
  have ht := rrtake W B w3 b L a3 f3 _ 32 h3 ha3 HL.out (by decide)
  rw [show ((32 : Nat) : Int) = 32 from rfl] at ht
  have HT3 := Lib.hid ht
  have hf2 : f3 = false → f2 = false := by
    intro hf
    rcases hc3 with ⟨_, h, _⟩ | ⟨h, _⟩
    · exact h
    · rw [hf] at h; cases h
  have FAR3 := Lib.hid (And.intro far3 hf2)
  have HX3 := Lib.hid hx3
  clear ht h3 ha3 hc3 HT2 far3 hf2 hx3
  go_wp2_with fail
  refine HT3.out.mono ?_
  rintro e' w4 ⟨x4, a4, f4, rfl, h4, ha4, hx4, hc4⟩
  have far4 := far_next (L := L) (m := 32) FAR3.out.1.1 (by decide) ha4 hc4
  have hf3 : f4 = false → f3 = false := by
    intro hf
    rcases hc4 with ⟨_, h, _⟩ | ⟨h, _⟩
    · exact h
    · rw [hf] at h; cases h
  have hend := four_end (x1 := x1) (x2 := x2) (x3 := x3) (x4 := x4) far4.1 (fun h => by have := FAR1.out.2 (FAR2.out.2 (FAR3.out.2 (hf3 h))); rw [List.drop_zero] at this; exact this) (fun h => FAR2.out.1.2 (FAR3.out.2 (hf3 h))) (fun h => FAR3.out.1.2 (hf3 h)) (fun h => far4.2 h)
  have HEND := Lib.hid hend
  obtain ⟨z, zw, zm, zs⟩ := sum0 HX3.out hx4
  have HZ := Lib.hid zs
  obtain ⟨p1, p2⟩ := x16 HX1.out
  obtain ⟨q1, q2⟩ := x16 HX3.out
  obtain ⟨r1, r2⟩ := x32 hx4
  obtain ⟨any, hany⟩ : ∃ any : Bool, ((x2 : Int) == 1) = any := ⟨_, rfl⟩
  have hanz := eqz hany HX2.out
  have HANY := Lib.hid hany
  obtain ⟨v4, h5⟩ := h4
  have l2 := h5.cell 2 rfl
  have H5 := Lib.hid h5
  clear h5 ha4 hc4 HT3 far4 hf3 hend hx4 zs FAR1 FAR2 FAR3
  cases f4 with
  | true =>
    have HEQ := Lib.hid ((HEND.out.resolve_right (fun h => absurd h.1 (by decide))).2)
    have s0 := H5.out.up2
    have c0 := s0.cell 0 rfl
    have f0 := s0.frozen 0
    have s1 := s0.set 0 (.int .u16 0)
    simp only [List.set] at s1
    have c1 := s1.cell 1 rfl
    have f1 := s1.frozen 1
    have s2 := s1.set 1 (.bool false)
    simp only [List.set] at s2
    have c2 := s2.cell 2 rfl
    have f2 := s2.frozen 2
    have s3 := s2.set 2 (.int .u16 0)
    simp only [List.set] at s3
    have c3 := s3.cell 3 rfl
    have f3 := s3.frozen 3
    have s4 := s3.set 3 (.int .u32 0)
    simp only [List.set] at s4
    have S4 := Lib.hid s4
    clear s0 s1 s2 s3 s4 H5
    go_wp2_with fail
    have hz := S4.out
    refine bodyPost_ret (Go.Proofs.YtlhlkjllihbokaaW.PrintWords.results_ct rfl _ _ _ _ _ _ _ rfl hz.head.2 Try.underlying65 rfl (by kernel_rfl)) rfl ?_
    exact ReadPost.mk HEQ.out hz.tail.tail.tail
  | false =>
    have hfe : readH L = fourH x1 x2 x3 x4 := (HEND.out.resolve_left (fun h => absurd h.1 (by decide))).2
    have HFE := Lib.hid hfe
    clear hfe HEND
    cases any with
    | true =>
      have HEQ := Lib.hid (HFE.out.trans (fourH_yes HANY.out HX2.out (.inl rfl)))
      simp only [Bool.not_true] at hanz
      have s0 := H5.out.up2
      have c0 := s0.cell 0 rfl
      have f0 := s0.frozen 0
      have s1 := s0.set 0 (.int .u16 (x1 : Int))
      simp only [List.set] at s1
      have c1 := s1.cell 1 rfl
      have f1 := s1.frozen 1
      have s2 := s1.set 1 (.bool true)
      simp only [List.set] at s2
      have c2 := s2.cell 2 rfl
      have f2 := s2.frozen 2
      have s3 := s2.set 2 (.int .u16 (x3 : Int))
      simp only [List.set] at s3
      have c3 := s3.cell 3 rfl
      have f3 := s3.frozen 3
      have s4 := s3.set 3 (.int .u32 (x4 : Int))
      simp only [List.set] at s4
      have S4 := Lib.hid s4
      clear s0 s1 s2 s3 s4 H5
      go_wp2_with fail
      have hz := S4.out
      refine bodyPost_ret (Go.Proofs.YtlhlkjllihbokaaW.PrintWords.results_ct rfl _ _ _ _ _ _ _ rfl hz.head.2 Try.underlying65 rfl (by kernel_rfl)) rfl ?_
      exact ReadPost.mk HEQ.out hz.tail.tail.tail
    | false =>
      simp only [Bool.not_false] at hanz
      by_cases hz0 : 0 < z
      · have HEQ := Lib.hid (HFE.out.trans (fourH_no (two_no HANY.out HX2.out) (z_pos HZ.out hz0)))
        obtain ⟨n3, n4⟩ := dec_pos hz0
        clear hz0
        have s0 := H5.out.up2
        have c0 := s0.cell 0 rfl
        have f0 := s0.frozen 0
        have s1 := s0.set 0 (.int .u16 0)
        simp only [List.set] at s1
        have c1 := s1.cell 1 rfl
        have f1 := s1.frozen 1
        have s2 := s1.set 1 (.bool false)
        simp only [List.set] at s2
        have c2 := s2.cell 2 rfl
        have f2 := s2.frozen 2
        have s3 := s2.set 2 (.int .u16 0)
        simp only [List.set] at s3
        have c3 := s3.cell 3 rfl
        have f3 := s3.frozen 3
        have s4 := s3.set 3 (.int .u32 0)
        simp only [List.set] at s4
        have S4 := Lib.hid s4
        clear s0 s1 s2 s3 s4 H5
        go_wp2_with fail
        have hz := S4.out
        refine bodyPost_ret (Go.Proofs.YtlhlkjllihbokaaW.PrintWords.results_ct rfl _ _ _ _ _ _ _ rfl hz.head.2 Try.underlying65 rfl (by kernel_rfl)) rfl ?_
        exact ReadPost.mk HEQ.out hz.tail.tail.tail
      · have HEQ := Lib.hid (HFE.out.trans (fourH_yes HANY.out HX2.out (.inr (z_zero HZ.out hz0))))
        obtain ⟨n3, n4⟩ := dec_zero hz0
        clear hz0
        have s0 := H5.out.up2
        have c0 := s0.cell 0 rfl
        have f0 := s0.frozen 0
        have s1 := s0.set 0 (.int .u16 (x1 : Int))
        simp only [List.set] at s1
        have c1 := s1.cell 1 rfl
        have f1 := s1.frozen 1
        have s2 := s1.set 1 (.bool false)
        simp only [List.set] at s2
        have c2 := s2.cell 2 rfl
        have f2 := s2.frozen 2
        have s3 := s2.set 2 (.int .u16 (x3 : Int))
        simp only [List.set] at s3
        have c3 := s3.cell 3 rfl
        have f3 := s3.frozen 3
        have s4 := s3.set 3 (.int .u32 (x4 : Int))
        simp only [List.set] at s4
        have S4 := Lib.hid s4
        clear s0 s1 s2 s3 s4 H5
        go_wp2_with fail
        have hz := S4.out
        refine bodyPost_ret (Go.Proofs.YtlhlkjllihbokaaW.PrintWords.results_ct rfl _ _ _ _ _ _ _ rfl hz.head.2 Try.underlying65 rfl (by kernel_rfl)) rfl ?_
        exact ReadPost.mk HEQ.out hz.tail.tail.tail

end Go.Proofs.Ytlhlkjllihbokaa.Chan
