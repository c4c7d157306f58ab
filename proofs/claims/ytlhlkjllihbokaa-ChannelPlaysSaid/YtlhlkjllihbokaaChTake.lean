/- Channel.Take. -/
import Derived.Test.YtlhlkjllihbokaaChDel
import Derived.Test.YtlhlkjllihbokaaMix2
set_option linter.unusedVariables false
set_option linter.unusedSimpArgs false
namespace Go.Proofs.Ytlhlkjllihbokaa.Chan
open Go.Sort Go.RowKit Go.Proofs.Ytlhlkjllihbokaa.Mem Go.Proofs.Ytlhlkjllihbokaa.Open Go.Proofs.Ytlhlkjllihbokaa.Num Go.Proofs.Ytlhlkjllihbokaa.Step Go.Proofs.Ytlhlkjllihbokaa.Ser Go.Proofs.YtlhlkjllihbokaaW.PrintWords

/-- What Take answers: an old number is refused; else the window goes on, and what the header acknowledges goes from the open ones to what is told. -/
def TakePost (W : World) (B : Nat) (b : Nat) (next : Int) (x : Win) (op : List Int) (F : List Ent) (n a m : Int) (any : Bool) (e' : Ending) (w' : World) : Prop :=
  ((takeW x n).2 = false ∧ e' = .returned (.tuple #[.slice none 0 0, .int .i64 8]) ∧ ChS W B w' b next x op F) ∨
  ((takeW x n).2 = true ∧ ∃ vg, e' = .returned (.tuple #[vg, .int .i64 0]) ∧ ChS W B w' b next (takeW x n).1 (op.filter (fun y => !hasW ⟨any, a, m⟩ y)) (.rw vg 22 1 (op.filter (hasW ⟨any, a, m⟩)).length (u16s (op.filter (hasW ⟨any, a, m⟩))) :: F))

set_option maxRecDepth 100000 in
set_option maxHeartbeats 2000000 in
theorem ctake (W : World) (B : Nat) (w : World) (b : Nat) (next : Int) (x : Win) (op : List Int) (F : List Ent) (n a m : Int) (any : Bool) (ha : 0 ≤ m) (hb : m < 4294967296) (hm0 : 0 ≤ x.mask) (hm1 : x.mask < 4294967296) (hl : op.length ≤ 1000)
    (hH : ChS W B w b next x op F) :
    Calls Try.prog 34 #[.pointer (some ⟨b, 0, none⟩), .agg #[.int .u16 n, .bool any, .int .u16 a, .int .u32 m]] w fun e' w' => TakePost W B b next x op F n a m any e' w' := by
  have hmf : ∀ (fn : Fn) (first cap : Array Value) (w : World), (Instr.makeFunc fn first cap).run Try.prog w = .ok (.func fn first cap) w := fun _ _ _ _ => rfl
  obtain ⟨v, hC⟩ := hH
  obtain ⟨A, c, rfl⟩ := hC.up1.slice
  have h0 := hC.alloc [.int .u16 n, .bool any, .int .u16 a, .int .u32 m] 56
  have h1 := h0
  obtain ⟨w1, hw1⟩ : ∃ w1, w.alloc (.cells #[.int .u16 n, .bool any, .int .u16 a, .int .u32 m] 56) = w1 := ⟨_, rfl⟩
  rw [show (w.alloc (.cells [Value.int .u16 n, .bool any, .int .u16 a, .int .u32 m].toArray 56)) = w1 from hw1] at h1
  obtain ⟨x', ok, htk⟩ : ∃ x' ok, takeW x n = (x', ok) := ⟨_, _, rfl⟩
  have HTK := Lib.hid htk
  have HH := Lib.hid h1
  have HM := Lib.hid (And.intro hm0 hm1)
  have HL := Lib.hid hl
  have HOK := Lib.hid (And.intro ha hb)
  clear hC h0 h1 hm0 hm1 hl ha hb htk
  go_enter Try.func34, Try.ntmps34
  go_wp2_with fail
  obtain ⟨hb, hhb⟩ : ∃ hb, w.heap.size = hb := ⟨_, rfl⟩
  rw [hhb] at HH ⊢
  have hlt : hb < w1.heap.size := HH.out.lt
  go_cut [6, 7] from 12 (fun t6 t7 wx => ∃ wb, t6 = .pointer (some ⟨wb, 0, none⟩) ∧ t7 = .bool ok ∧ Holds W B wx (.st wb x'.cells 30 :: .st hb [.int .u16 n, .bool any, .int .u16 a, .int .u32 m] 56 :: .st b [.int .u16 next, .bool x.any, .int .u16 x.last, .int .u32 x.mask, .slice A op.length c] 43 :: .rw (.slice A op.length c) 22 1 op.length (u16s op) :: F))
  case first =>
    have hS1 := HH.out.drew
    refine Mix.region 12 (fun w' => Holds W B w' (.st hb [.int .u16 n, .bool any, .int .u16 a, .int .u32 m] 56 :: .st b [.int .u16 next, .bool x.any, .int .u16 x.last, .int .u32 x.mask, .slice A op.length c] 43 :: .rw (.slice A op.length c) 22 1 op.length (u16s op) :: F)) (by kernel_rfl) ?_
    simp only [List.size_toArray, List.length_cons, List.length_nil]
    refine Mix.at_take (i := 0) (v := ?_) rfl (by kernel_rfl) (by kernel_rfl) (by kernel_rfl) (by kernel_rfl) (by kernel_rfl) (by kernel_rfl) (by kernel_rfl) (fun _ _ _ h => h) (Or.inl ⟨by rfl, ?_⟩) hS1 ?_
    rotate_left
    · intro w hSw
      (try dsimp only at hSw)
      have q0 := hSw.cell 0 rfl
      have q1 := hSw.up1.cell 1 rfl
      have q2 := hSw.up1.cell 2 rfl
      have q3 := hSw.up1.cell 3 rfl
      go_simp
      try (with_reducible rfl)
    simp only [Act.put, List.setIfInBounds_toArray, List.set_cons_zero, List.set_cons_succ]
    refine Mix.at_take (i := 1) (v := ?_) rfl (by kernel_rfl) (by kernel_rfl) (by kernel_rfl) (by kernel_rfl) (by kernel_rfl) (by kernel_rfl) (by kernel_rfl) (fun _ _ _ h => h) (Or.inl ⟨by rfl, ?_⟩) hS1 ?_
    rotate_left
    · intro w hSw
      (try dsimp only at hSw)
      have q0 := hSw.cell 0 rfl
      have q1 := hSw.up1.cell 1 rfl
      have q2 := hSw.up1.cell 2 rfl
      have q3 := hSw.up1.cell 3 rfl
      go_simp
      try (with_reducible rfl)
    simp only [Act.put, List.setIfInBounds_toArray, List.set_cons_zero, List.set_cons_succ]
    refine Mix.at_take (i := 2) (v := ?_) rfl (by kernel_rfl) (by kernel_rfl) (by kernel_rfl) (by kernel_rfl) (by kernel_rfl) (by kernel_rfl) (by kernel_rfl) (fun _ _ _ h => h) (Or.inl ⟨by rfl, ?_⟩) hS1 ?_
    rotate_left
    · intro w hSw
      (try dsimp only at hSw)
      have q0 := hSw.cell 0 rfl
      have q1 := hSw.up1.cell 1 rfl
      have q2 := hSw.up1.cell 2 rfl
      have q3 := hSw.up1.cell 3 rfl
      go_simp
      try (with_reducible rfl)
    simp only [Act.put, List.setIfInBounds_toArray, List.set_cons_zero, List.set_cons_succ]
    refine Mix.at_take (i := 3) (v := ?_) rfl (by kernel_rfl) (by kernel_rfl) (by kernel_rfl) (by kernel_rfl) (by kernel_rfl) (by kernel_rfl) (by kernel_rfl) (fun _ _ _ h => h) (Or.inl ⟨by rfl, ?_⟩) hS1 ?_
    rotate_left
    · intro w hSw
      (try dsimp only at hSw)
      have q0 := hSw.cell 0 rfl
      have q1 := hSw.up1.cell 1 rfl
      have q2 := hSw.up1.cell 2 rfl
      have q3 := hSw.up1.cell 3 rfl
      go_simp
      try (with_reducible rfl)
    simp only [Act.put, List.setIfInBounds_toArray, List.set_cons_zero, List.set_cons_succ]
    refine Mix.at_take (i := 4) (v := ?_) rfl (by kernel_rfl) (by kernel_rfl) (by kernel_rfl) (by kernel_rfl) (by kernel_rfl) (by kernel_rfl) (by kernel_rfl) (fun _ _ _ h => h) (Or.inl ⟨by rfl, ?_⟩) hS1 ?_
    rotate_left
    · intro w hSw
      (try dsimp only at hSw)
      have q0 := hSw.cell 0 rfl
      have q1 := hSw.up1.cell 1 rfl
      have q2 := hSw.up1.cell 2 rfl
      have q3 := hSw.up1.cell 3 rfl
      go_simp
      try (with_reducible rfl)
    simp only [Act.put, List.setIfInBounds_toArray, List.set_cons_zero, List.set_cons_succ]
    refine Mix.at_take (i := 5) (v := ?_) rfl (by kernel_rfl) (by kernel_rfl) (by kernel_rfl) (by kernel_rfl) (by kernel_rfl) (by kernel_rfl) (by kernel_rfl) (fun _ _ _ h => h) (Or.inl ⟨by rfl, ?_⟩) hS1 ?_
    rotate_left
    · intro w hSw
      (try dsimp only at hSw)
      have q0 := hSw.cell 0 rfl
      have q1 := hSw.up1.cell 1 rfl
      have q2 := hSw.up1.cell 2 rfl
      have q3 := hSw.up1.cell 3 rfl
      go_simp
      try (with_reducible rfl)
    simp only [Act.put, List.setIfInBounds_toArray, List.set_cons_zero, List.set_cons_succ]
    refine Mix.at_two (i := 6) (k := 10) rfl rfl (by decide) (by decide) (by decide +kernel) (by rfl) (by rfl) ?_ ?_
    · unfold Oper.wp
      go_simp
      refine (ptake _ x.any x.last x.mask n HM.out.1 HM.out.2).mono ?_
      rintro e' w2 ⟨rfl, h2⟩
      rw [HTK.out]
      simp only [Win.val]
      have hS1 := hbelowed' hS1 h2
      clear h2
      refine ⟨hS1, ?_⟩
      refine Mix.at_take (i := 7) (v := ?_) rfl (by kernel_rfl) (by kernel_rfl) (by kernel_rfl) (by kernel_rfl) (by kernel_rfl) (by kernel_rfl) (by kernel_rfl) (fun _ _ _ h => h) (Or.inl ⟨by rfl, ?_⟩) hS1 ?_
      rotate_left
      · intro w hSw
        (try dsimp only at hSw)
        have q0 := hSw.cell 0 rfl
        have q1 := hSw.up1.cell 1 rfl
        have q2 := hSw.up1.cell 2 rfl
        have q3 := hSw.up1.cell 3 rfl
        go_simp
        try (with_reducible rfl)
      simp only [Act.put, List.setIfInBounds_toArray, List.set_cons_zero, List.set_cons_succ]
      refine Mix.at_take (i := 8) (v := ?_) rfl (by kernel_rfl) (by kernel_rfl) (by kernel_rfl) (by kernel_rfl) (by kernel_rfl) (by kernel_rfl) (by kernel_rfl) (fun _ _ _ h => h) (Or.inl ⟨by rfl, ?_⟩) hS1 ?_
      rotate_left
      · intro w hSw
        (try dsimp only at hSw)
        have q0 := hSw.cell 0 rfl
        have q1 := hSw.up1.cell 1 rfl
        have q2 := hSw.up1.cell 2 rfl
        have q3 := hSw.up1.cell 3 rfl
        go_simp
        try (with_reducible rfl)
      simp only [Act.put, List.setIfInBounds_toArray, List.set_cons_zero, List.set_cons_succ]
      refine Mix.at_take (i := 9) (v := ?_) rfl (by kernel_rfl) (by kernel_rfl) (by kernel_rfl) (by kernel_rfl) (by kernel_rfl) (by kernel_rfl) (by kernel_rfl) (fun _ _ _ h => h) (Or.inl ⟨by rfl, ?_⟩) hS1 ?_
      rotate_left
      · intro w hSw
        (try dsimp only at hSw)
        have q0 := hSw.cell 0 rfl
        have q1 := hSw.up1.cell 1 rfl
        have q2 := hSw.up1.cell 2 rfl
        have q3 := hSw.up1.cell 3 rfl
        go_simp
        try (with_reducible rfl)
      simp only [Act.put, List.setIfInBounds_toArray, List.set_cons_zero, List.set_cons_succ]
      refine Mix.at_step (i := 10) rfl (by kernel_rfl) (by kernel_rfl) (by rfl) ?_
      unfold Oper.wp
      go_simp
      refine ⟨hS1.alloc' _, ?_⟩
      refine Mix.at_step (i := 11) rfl (by kernel_rfl) (by kernel_rfl) (by rfl) ?_
      unfold Oper.wp
      go_simp
      refine ⟨hS1.alloc' _, ?_⟩
      refine Mix.at_tail _ rfl rfl (by kernel_rfl) ?_
      simp only [List.drop_succ_cons, List.drop_zero]
      go_wp2_with fail
      go_meet
      exact ⟨_, rfl, rfl, hS1.alloc x'.cells 30⟩
    · unfold Oper.wp
      go_simp
      have hS2 := hS1.alloc [.bool false, .int .u16 0, .int .u32 0] 30
      rw [show w1.drew.heap.size = w1.heap.size from rfl] at hS2
      have hS1 := hS2.tail
      refine ⟨hS1, ?_⟩
      refine Mix.at_step (i := 6) rfl (by kernel_rfl) (by kernel_rfl) (by rfl) ?_
      unfold Oper.wp
      go_simp
      refine (ptake _ x.any x.last x.mask n HM.out.1 HM.out.2).mono ?_
      rintro e' w2 ⟨rfl, h2⟩
      rw [HTK.out]
      simp only [Win.val]
      have hS3 := hbelowed' hS2 h2
      have hS1 := hS3.tail
      clear h2 hS2
      refine ⟨hS1, ?_⟩
      refine Mix.at_take (i := 7) (v := ?_) rfl (by kernel_rfl) (by kernel_rfl) (by kernel_rfl) (by kernel_rfl) (by kernel_rfl) (by kernel_rfl) (by kernel_rfl) (fun _ _ _ h => h) (Or.inl ⟨by rfl, ?_⟩) hS1 ?_
      rotate_left
      · intro w hSw
        (try dsimp only at hSw)
        have q0 := hSw.cell 0 rfl
        have q1 := hSw.up1.cell 1 rfl
        have q2 := hSw.up1.cell 2 rfl
        have q3 := hSw.up1.cell 3 rfl
        go_simp
        try (with_reducible rfl)
      simp only [Act.put, List.setIfInBounds_toArray, List.set_cons_zero, List.set_cons_succ]
      refine Mix.at_take (i := 8) (v := ?_) rfl (by kernel_rfl) (by kernel_rfl) (by kernel_rfl) (by kernel_rfl) (by kernel_rfl) (by kernel_rfl) (by kernel_rfl) (fun _ _ _ h => h) (Or.inl ⟨by rfl, ?_⟩) hS1 ?_
      rotate_left
      · intro w hSw
        (try dsimp only at hSw)
        have q0 := hSw.cell 0 rfl
        have q1 := hSw.up1.cell 1 rfl
        have q2 := hSw.up1.cell 2 rfl
        have q3 := hSw.up1.cell 3 rfl
        go_simp
        try (with_reducible rfl)
      simp only [Act.put, List.setIfInBounds_toArray, List.set_cons_zero, List.set_cons_succ]
      refine Mix.at_take (i := 9) (v := ?_) rfl (by kernel_rfl) (by kernel_rfl) (by kernel_rfl) (by kernel_rfl) (by kernel_rfl) (by kernel_rfl) (by kernel_rfl) (fun _ _ _ h => h) (Or.inl ⟨by rfl, ?_⟩) hS1 ?_
      rotate_left
      · intro w hSw
        (try dsimp only at hSw)
        have q0 := hSw.cell 0 rfl
        have q1 := hSw.up1.cell 1 rfl
        have q2 := hSw.up1.cell 2 rfl
        have q3 := hSw.up1.cell 3 rfl
        go_simp
        try (with_reducible rfl)
      simp only [Act.put, List.setIfInBounds_toArray, List.set_cons_zero, List.set_cons_succ]
      have c0 := hS3.cell 0 rfl
      have f0 := hS3.frozen 0
      have s1 := hS3.set 0 (.bool x'.any)
      have c1 := s1.cell 1 rfl
      have f1 := s1.frozen 1
      have s2 := s1.set 1 (.int .u16 x'.last)
      have c2 := s2.cell 2 rfl
      have f2 := s2.frozen 2
      have s3 := s2.set 2 (.int .u32 x'.mask)
      simp only [List.set] at s3
      have S3 := Lib.hid s3
      clear s1 s2 s3 hS3
      refine Mix.at_step (i := 11) rfl (by kernel_rfl) (by kernel_rfl) (by rfl) ?_
      unfold Oper.wp
      go_simp
      refine ⟨S3.out.tail, ?_⟩
      refine Mix.at_tail _ rfl rfl (by kernel_rfl) ?_
      simp only [List.drop_succ_cons, List.drop_zero]
      go_wp2_with fail
      go_meet
      exact ⟨_, rfl, rfl, S3.out⟩
  case rest =>
    obtain ⟨wb, rfl, rfl, hc⟩ := hcut
    cases ok with
    | false =>
      have HC := Lib.hid hc
      clear hc HH hlt
      go_wp2_with fail
      exact bodyPost_ret (results_tmp2 rfl _ _ _) rfl (.inl ⟨by rw [HTK.out], rfl, _, HC.out.tail.tail⟩)
    | true =>
      have q0 := hc.cell 0 (v := .bool x'.any) rfl
      have q1 := hc.cell 1 (v := .int .u16 x'.last) rfl
      have q2 := hc.cell 2 (v := .int .u32 x'.mask) rfl
      have h1 := hc.up1.cell 1 rfl
      have h2 := hc.up1.cell 2 rfl
      have h3 := hc.up1.cell 3 rfl
      have k0 := hc.up2
      have c1 := k0.cell 1 rfl
      have f1 := k0.frozen 1
      have k1 := k0.set 1 (.bool x'.any)
      have c2 := k1.cell 2 rfl
      have f2 := k1.frozen 2
      have k2 := k1.set 2 (.int .u16 x'.last)
      have c3 := k2.cell 3 rfl
      have f3 := k2.frozen 3
      have k3 := k2.set 3 (.int .u32 x'.mask)
      simp only [List.set] at k3
      have g1 := k3.up2.cell 1 rfl
      have g2 := k3.up2.cell 2 rfl
      have g3 := k3.up2.cell 3 rfl
      have K3 := Lib.hid k3
      clear hc k0 k1 k2 k3 HH
      go_upto_region 7 with (fail)
      have g4 := K3.out.cell 4 rfl
      clear q0 q1 q2 h1 h2 h3 c1 f1 c2 f2 c3 f3 hlt
      generalize (((wc.setCell { block := b, off := 1 } (Value.bool x'.any)).setCell { block := b, off := 2 } (Value.int IntKind.u16 x'.last)).setCell { block := b, off := 3 } (Value.int IntKind.u32 x'.mask)) = w5 at *
      have hB := (K3.out.alloc [.bool any, .int .u16 a, .int .u32 m] 30).alloc [.slice none 0 0] 27
      rw [show (w5.alloc (.cells [Value.bool any, .int .u16 a, .int .u32 m].toArray 30)).heap.size = w5.heap.size + 1 by simp] at hB
      have hD := cdelf W B _ _ _ ⟨any, a, m⟩ op A c _ HOK.out.1 HOK.out.2 HL.out ⟨_, ((hB.nilrow 22 1).up2.up2.up1).up6.up1.up2.up1.up3.up2.up2⟩
      have HD := Lib.hid hD
      have hltb : b < w5.heap.size := K3.out.lt
      clear hB hD K3
      go_wp2_with fail
      refine HD.out.mono ?_
      rintro e' w6 ⟨rfl, vg, h6⟩
      obtain ⟨A6, c6, rfl⟩ := h6.up2.slice
      have r0 := h6.up4.cell 4 rfl
      have r1 := h6.up4.frozen 4
      have h7 := h6.up4.set 4 (.slice A (op.filter (fun y => !hasW ⟨any, a, m⟩ y)).length c)
      simp only [List.set] at h7
      have r2 := h7.up2.cell 0 rfl
      have H7 := Lib.hid h7
      clear h6 h7 HD g1 g2 g3 g4
      go_wp2_with fail
      refine bodyPost_ret (results_tmp2 rfl _ _ _) rfl (.inr ⟨by rw [HTK.out], _, rfl, ?_⟩)
      rw [HTK.out]
      exact ⟨_, H7.out.up1.tail.up1.tail.up3.tail.up3.tail.up2.up1⟩

end Go.Proofs.Ytlhlkjllihbokaa.Chan
