/- The reference's channel takes a header; by the program. -/
import Derived.Test.YtlhlkjllihbokaaChR14
import Derived.Test.YtlhlkjllihbokaaChR4T
import Derived.Test.YtlhlkjllihbokaaMix2
set_option linter.unusedVariables false
set_option linter.unusedSimpArgs false
namespace Go.Proofs.Ytlhlkjllihbokaa.R14
open Go.Sort Go.RowKit Go.Proofs.Ytlhlkjllihbokaa.Mem Go.Proofs.Ytlhlkjllihbokaa.Open Go.Proofs.Ytlhlkjllihbokaa.Num Go.Proofs.Ytlhlkjllihbokaa.Step Go.Proofs.Ytlhlkjllihbokaa.Ser Go.Proofs.Ytlhlkjllihbokaa.Chan Go.Proofs.YtlhlkjllihbokaaW.PrintWords

theorem same16 (w : World) (v v' : Value) (xs : List Int) (hl : xs.length ≤ 1000) (h1 : Rd w v xs.length (u16s xs)) (h2 : Rd w v' xs.length (u16s xs)) :
    Calls Try.prog 36 #[v, v'] w fun e' w' => e' = .returned (.bool true) ∧ Drawn0 w w' := by
  obtain ⟨A, c, rfl, hc, hm, hr⟩ := Wr.Rd.form h1 (u16s_len xs)
  obtain ⟨A', c', rfl, hc', hm', hr'⟩ := Wr.Rd.form h2 (u16s_len xs)
  have HR := Lib.hid (And.intro hr hr')
  have HL := Lib.hid hl
  obtain ⟨n, hx⟩ : ∃ n, xs.length = n := ⟨_, rfl⟩
  rw [hx] at HR HL
  rw [hx]
  have HX := Lib.hid hx
  clear hr hr' h1 h2 hm hm' hc hc' hl hx
  go_enter Try.func36, Try.ntmps36
  have hb : ((n : Int) != (n : Int)) = false := by simp
  go_wp2_with fail
  go_loopw [5] (fun i wr => ∃ k : Nat, Hid (k ≤ n) ∧ i = .int .i64 k ∧ Drawn0 w wr) (fun i _ => n - (intOf i).toNat)
  case atStart => exact ⟨0, Lib.hid (Nat.zero_le _), rfl, Drawn0.refl _⟩
  case round =>
    obtain ⟨k, HK, rfl, hd⟩ := hrel
    obtain ⟨nn, rfl⟩ := hd.out
    clear hd
    by_cases hkn : k < n
    · obtain ⟨k0, k1, k2, k3⟩ := k_facts hkn HL.out
      have hxk : (u16s xs)[k]? = some (.int .u16 (xs[k]'(by rw [HX.out]; exact hkn))) := u16s_some (List.getElem?_eq_getElem _)
      obtain ⟨b, off, rfl, _, e1⟩ := HR.out.1 k hkn
      obtain ⟨b', off', rfl, _, e2⟩ := HR.out.2 k hkn
      have e1 := e1 _ hxk
      have e2 := e2 _ hxk
      obtain ⟨x, hx⟩ : ∃ x, (xs[k]'(by rw [HX.out]; exact hkn)) = x := ⟨_, rfl⟩
      rw [hx] at e1 e2
      have hne : (x != x) = false := by simp
      have HKN := Lib.hid hkn
      clear hxk hx hkn
      go_wp2_with fail
      go_quiet (fail)
      go_wp2_with fail
      exact ⟨⟨k + 1, Lib.hid HKN.out, by go_num, by first | exact ⟨⟨_, rfl⟩⟩ | exact ((Drawn0.refl _).step _).step _⟩, by have := HKN.out; simp [intOf]; omega⟩
    · obtain rfl : k = n := Nat.le_antisymm HK.out (Nat.le_of_not_lt hkn)
      clear hkn
      go_wp2_with fail
      go_ret
      exact ⟨rfl, by first | exact ⟨⟨_, rfl⟩⟩ | exact ((Drawn0.refl _).step _).step _⟩

/-- What the reference's Take answers. -/
def RTake (W : World) (B : Nat) (b : Nat) (x : Win) (L : List Bool) (F : List Ent) (n a m : Int) (any : Bool) (e' : Ending) (w' : World) : Prop :=
  ((takeW x n).2 = false ∧ e' = .returned (.tuple #[.slice none 0 0, .int .i64 8]) ∧ RS W B w' b x L F) ∨
  ((takeW x n).2 = true ∧ ∃ vg, e' = .returned (.tuple #[vg, .int .i64 0]) ∧ RS W B w' b (takeW x n).1 (clr (hasW ⟨any, a, m⟩) 0 L) (.rw vg 22 1 ((opn 0 L).filter (hasW ⟨any, a, m⟩)).length (u16s ((opn 0 L).filter (hasW ⟨any, a, m⟩))) :: F))

set_option maxRecDepth 100000 in
set_option maxHeartbeats 4000000 in
theorem rctake (W : World) (B : Nat) (w : World) (b : Nat) (x : Win) (L : List Bool) (F : List Ent) (n a m : Int) (hany : Bool) (hl : L.length ≤ 1000)
    (a0 : 0 ≤ a) (a1 : a ≤ 65535) (ha : 0 ≤ m) (hb : m < 4294967296) (h0 : 0 ≤ x.last) (h1 : x.last ≤ 65535) (g0 : 0 ≤ n) (g1 : n ≤ 65535) (hm0 : 0 ≤ x.mask) (hm1 : x.mask < 4294967296) (hH : RS W B w b x L F) :
    Calls Try.prog 35 #[.pointer (some ⟨b, 0, none⟩), .agg #[.int .u16 n, .bool hany, .int .u16 a, .int .u32 m]] w fun e' w' => RTake W B b x L F n a m hany e' w' := by
  obtain ⟨i0, hi, hz0, hz1, hz2⟩ := info_parts info_u16
  obtain ⟨v, hC⟩ := hH
  obtain ⟨A, c, rfl⟩ := hC.up1.slice
  obtain ⟨any, last, mask⟩ := x
  dsimp only at hC h0 h1 hm0 hm1
  have h5 := hC.alloc [.int .u16 n, .bool hany, .int .u16 a, .int .u32 m] 65
  obtain ⟨w1, hw1⟩ : ∃ w1, w.alloc (.cells #[.int .u16 n, .bool hany, .int .u16 a, .int .u32 m] 65) = w1 := ⟨_, rfl⟩
  rw [show (w.alloc (.cells [Value.int .u16 n, .bool hany, .int .u16 a, .int .u32 m].toArray 65)) = w1 from hw1] at h5
  obtain ⟨x', ok, htk⟩ : ∃ x' ok, takeW ⟨any, last, mask⟩ n = (x', ok) := ⟨_, _, rfl⟩
  have HTK := Lib.hid htk
  have HH := Lib.hid h5
  have HR := Lib.hid (And.intro h0 (And.intro h1 (And.intro g0 (And.intro g1 (And.intro hm0 hm1)))))
  have HL := Lib.hid hl
  have HOK := Lib.hid (And.intro a0 (And.intro a1 (And.intro ha hb)))
  clear hC h5 hm0 hm1 hl ha hb htk h0 h1 g0 g1 a0 a1
  go_enter Try.func35, Try.ntmps35
  go_wp2_with fail
  obtain ⟨hb, hhb⟩ : ∃ hb, w.heap.size = hb := ⟨_, rfl⟩
  rw [hhb] at HH ⊢
  have hlt : hb < w1.heap.size := HH.out.lt
  go_cut [6, 7] from 11 (fun t6 t7 wx => ∃ wb, t6 = .pointer (some ⟨wb, 0, none⟩) ∧ t7 = .bool ok ∧ Holds W B wx (.st wb x'.cells 80 :: .st hb [.int .u16 n, .bool hany, .int .u16 a, .int .u32 m] 65 :: .st b [.int .i64 (L.length : Int), .bool any, .int .u16 last, .int .u32 mask, .slice A L.length c] 82 :: .rw (.slice A L.length c) 4 1 L.length (bls L) :: F))
  case first =>
    have hS1 := HH.out.drew
    refine Mix.region 12 (fun w' => Holds W B w' (.st hb [.int .u16 n, .bool hany, .int .u16 a, .int .u32 m] 65 :: .st b [.int .i64 (L.length : Int), .bool any, .int .u16 last, .int .u32 mask, .slice A L.length c] 82 :: .rw (.slice A L.length c) 4 1 L.length (bls L) :: F)) (by kernel_rfl) ?_
    simp only [List.size_toArray, List.length_cons, List.length_nil]
    refine Mix.at_take (i := 0) (v := ?_) rfl (by kernel_rfl) (by kernel_rfl) (by kernel_rfl) (by kernel_rfl) (by kernel_rfl) (by kernel_rfl) (by kernel_rfl) (fun _ _ _ h => h) (Or.inl ⟨by rfl, ?_⟩) hS1 ?_
    rotate_left
    · intro w hSw
      (try dsimp only at hSw)
      have q0 := hSw.cell 0 rfl
      have q1 := hSw.up1.cell 1 rfl
      have q2 := hSw.up1.cell 2 rfl
      have q3 := hSw.up1.cell 3 rfl
      go_simp
      try (with_reducible rfl)
    simp only [Act.put, List.setIfInBounds_toArray, List.set_cons_zero, List.set_cons_succ]
    refine Mix.at_take (i := 1) (v := ?_) rfl (by kernel_rfl) (by kernel_rfl) (by kernel_rfl) (by kernel_rfl) (by kernel_rfl) (by kernel_rfl) (by kernel_rfl) (fun _ _ _ h => h) (Or.inl ⟨by rfl, ?_⟩) hS1 ?_
    rotate_left
    · intro w hSw
      (try dsimp only at hSw)
      have q0 := hSw.cell 0 rfl
      have q1 := hSw.up1.cell 1 rfl
      have q2 := hSw.up1.cell 2 rfl
      have q3 := hSw.up1.cell 3 rfl
      go_simp
      try (with_reducible rfl)
    simp only [Act.put, List.setIfInBounds_toArray, List.set_cons_zero, List.set_cons_succ]
    refine Mix.at_take (i := 2) (v := ?_) rfl (by kernel_rfl) (by kernel_rfl) (by kernel_rfl) (by kernel_rfl) (by kernel_rfl) (by kernel_rfl) (by kernel_rfl) (fun _ _ _ h => h) (Or.inl ⟨by rfl, ?_⟩) hS1 ?_
    rotate_left
    · intro w hSw
      (try dsimp only at hSw)
      have q0 := hSw.cell 0 rfl
      have q1 := hSw.up1.cell 1 rfl
      have q2 := hSw.up1.cell 2 rfl
      have q3 := hSw.up1.cell 3 rfl
      go_simp
      try (with_reducible rfl)
    simp only [Act.put, List.setIfInBounds_toArray, List.set_cons_zero, List.set_cons_succ]
    refine Mix.at_take (i := 3) (v := ?_) rfl (by kernel_rfl) (by kernel_rfl) (by kernel_rfl) (by kernel_rfl) (by kernel_rfl) (by kernel_rfl) (by kernel_rfl) (fun _ _ _ h => h) (Or.inl ⟨by rfl, ?_⟩) hS1 ?_
    rotate_left
    · intro w hSw
      (try dsimp only at hSw)
      have q0 := hSw.cell 0 rfl
      have q1 := hSw.up1.cell 1 rfl
      have q2 := hSw.up1.cell 2 rfl
      have q3 := hSw.up1.cell 3 rfl
      go_simp
      try (with_reducible rfl)
    simp only [Act.put, List.setIfInBounds_toArray, List.set_cons_zero, List.set_cons_succ]
    refine Mix.at_take (i := 4) (v := ?_) rfl (by kernel_rfl) (by kernel_rfl) (by kernel_rfl) (by kernel_rfl) (by kernel_rfl) (by kernel_rfl) (by kernel_rfl) (fun _ _ _ h => h) (Or.inl ⟨by rfl, ?_⟩) hS1 ?_
    rotate_left
    · intro w hSw
      (try dsimp only at hSw)
      have q0 := hSw.cell 0 rfl
      have q1 := hSw.up1.cell 1 rfl
      have q2 := hSw.up1.cell 2 rfl
      have q3 := hSw.up1.cell 3 rfl
      go_simp
      try (with_reducible rfl)
    simp only [Act.put, List.setIfInBounds_toArray, List.set_cons_zero, List.set_cons_succ]
    refine Mix.at_take (i := 5) (v := ?_) rfl (by kernel_rfl) (by kernel_rfl) (by kernel_rfl) (by kernel_rfl) (by kernel_rfl) (by kernel_rfl) (by kernel_rfl) (fun _ _ _ h => h) (Or.inl ⟨by rfl, ?_⟩) hS1 ?_
    rotate_left
    · intro w hSw
      (try dsimp only at hSw)
      have q0 := hSw.cell 0 rfl
      have q1 := hSw.up1.cell 1 rfl
      have q2 := hSw.up1.cell 2 rfl
      have q3 := hSw.up1.cell 3 rfl
      go_simp
      try (with_reducible rfl)
    simp only [Act.put, List.setIfInBounds_toArray, List.set_cons_zero, List.set_cons_succ]
    refine Mix.at_two (i := 6) (k := 10) rfl rfl (by decide) (by decide) (by decide +kernel) (by rfl) (by rfl) ?_ ?_
    · unfold Oper.wp
      go_simp
      refine (R4.rtake _ any last mask n HR.out.1 HR.out.2.1 HR.out.2.2.1 HR.out.2.2.2.1 HR.out.2.2.2.2.1 HR.out.2.2.2.2.2).mono ?_
      rintro e' w2 ⟨rfl, h2⟩
      rw [HTK.out]
      simp only [Win.val]
      have hS1 := hbelowed' hS1 h2
      clear h2
      refine ⟨hS1, ?_⟩
      refine Mix.at_take (i := 7) (v := ?_) rfl (by kernel_rfl) (by kernel_rfl) (by kernel_rfl) (by kernel_rfl) (by kernel_rfl) (by kernel_rfl) (by kernel_rfl) (fun _ _ _ h => h) (Or.inl ⟨by rfl, ?_⟩) hS1 ?_
      rotate_left
      · intro w hSw
        (try dsimp only at hSw)
        have q0 := hSw.cell 0 rfl
        have q1 := hSw.up1.cell 1 rfl
        have q2 := hSw.up1.cell 2 rfl
        have q3 := hSw.up1.cell 3 rfl
        go_simp
        try (with_reducible rfl)
      simp only [Act.put, List.setIfInBounds_toArray, List.set_cons_zero, List.set_cons_succ]
      refine Mix.at_take (i := 8) (v := ?_) rfl (by kernel_rfl) (by kernel_rfl) (by kernel_rfl) (by kernel_rfl) (by kernel_rfl) (by kernel_rfl) (by kernel_rfl) (fun _ _ _ h => h) (Or.inl ⟨by rfl, ?_⟩) hS1 ?_
      rotate_left
      · intro w hSw
        (try dsimp only at hSw)
        have q0 := hSw.cell 0 rfl
        have q1 := hSw.up1.cell 1 rfl
        have q2 := hSw.up1.cell 2 rfl
        have q3 := hSw.up1.cell 3 rfl
        go_simp
        try (with_reducible rfl)
      simp only [Act.put, List.setIfInBounds_toArray, List.set_cons_zero, List.set_cons_succ]
      refine Mix.at_take (i := 9) (v := ?_) rfl (by kernel_rfl) (by kernel_rfl) (by kernel_rfl) (by kernel_rfl) (by kernel_rfl) (by kernel_rfl) (by kernel_rfl) (fun _ _ _ h => h) (Or.inl ⟨by rfl, ?_⟩) hS1 ?_
      rotate_left
      · intro w hSw
        (try dsimp only at hSw)
        have q0 := hSw.cell 0 rfl
        have q1 := hSw.up1.cell 1 rfl
        have q2 := hSw.up1.cell 2 rfl
        have q3 := hSw.up1.cell 3 rfl
        go_simp
        try (with_reducible rfl)
      simp only [Act.put, List.setIfInBounds_toArray, List.set_cons_zero, List.set_cons_succ]
      refine Mix.at_step (i := 10) rfl (by kernel_rfl) (by kernel_rfl) (by rfl) ?_
      unfold Oper.wp
      go_simp
      refine ⟨hS1.alloc' _, ?_⟩
      refine Mix.at_step (i := 11) rfl (by kernel_rfl) (by kernel_rfl) (by rfl) ?_
      unfold Oper.wp
      go_simp
      refine ⟨hS1.alloc' _, ?_⟩
      refine Mix.at_tail _ rfl rfl (by kernel_rfl) ?_
      simp only [List.drop_succ_cons, List.drop_zero]
      go_wp2_with fail
      go_meet
      exact ⟨_, rfl, rfl, hS1.alloc x'.cells 80⟩
    · unfold Oper.wp
      go_simp
      have hS2 := hS1.alloc [.bool false, .int .u16 0, .int .u32 0] 80
      rw [show w1.drew.heap.size = w1.heap.size from rfl] at hS2
      have hS1 := hS2.tail
      refine ⟨hS1, ?_⟩
      refine Mix.at_step (i := 6) rfl (by kernel_rfl) (by kernel_rfl) (by rfl) ?_
      unfold Oper.wp
      go_simp
      refine (R4.rtake _ any last mask n HR.out.1 HR.out.2.1 HR.out.2.2.1 HR.out.2.2.2.1 HR.out.2.2.2.2.1 HR.out.2.2.2.2.2).mono ?_
      rintro e' w2 ⟨rfl, h2⟩
      rw [HTK.out]
      simp only [Win.val]
      have hS3 := hbelowed' hS2 h2
      have hS1 := hS3.tail
      clear h2 hS2
      refine ⟨hS1, ?_⟩
      refine Mix.at_take (i := 7) (v := ?_) rfl (by kernel_rfl) (by kernel_rfl) (by kernel_rfl) (by kernel_rfl) (by kernel_rfl) (by kernel_rfl) (by kernel_rfl) (fun _ _ _ h => h) (Or.inl ⟨by rfl, ?_⟩) hS1 ?_
      rotate_left
      · intro w hSw
        (try dsimp only at hSw)
        have q0 := hSw.cell 0 rfl
        have q1 := hSw.up1.cell 1 rfl
        have q2 := hSw.up1.cell 2 rfl
        have q3 := hSw.up1.cell 3 rfl
        go_simp
        try (with_reducible rfl)
      simp only [Act.put, List.setIfInBounds_toArray, List.set_cons_zero, List.set_cons_succ]
      refine Mix.at_take (i := 8) (v := ?_) rfl (by kernel_rfl) (by kernel_rfl) (by kernel_rfl) (by kernel_rfl) (by kernel_rfl) (by kernel_rfl) (by kernel_rfl) (fun _ _ _ h => h) (Or.inl ⟨by rfl, ?_⟩) hS1 ?_
      rotate_left
      · intro w hSw
        (try dsimp only at hSw)
        have q0 := hSw.cell 0 rfl
        have q1 := hSw.up1.cell 1 rfl
        have q2 := hSw.up1.cell 2 rfl
        have q3 := hSw.up1.cell 3 rfl
        go_simp
        try (with_reducible rfl)
      simp only [Act.put, List.setIfInBounds_toArray, List.set_cons_zero, List.set_cons_succ]
      refine Mix.at_take (i := 9) (v := ?_) rfl (by kernel_rfl) (by kernel_rfl) (by kernel_rfl) (by kernel_rfl) (by kernel_rfl) (by kernel_rfl) (by kernel_rfl) (fun _ _ _ h => h) (Or.inl ⟨by rfl, ?_⟩) hS1 ?_
      rotate_left
      · intro w hSw
        (try dsimp only at hSw)
        have q0 := hSw.cell 0 rfl
        have q1 := hSw.up1.cell 1 rfl
        have q2 := hSw.up1.cell 2 rfl
        have q3 := hSw.up1.cell 3 rfl
        go_simp
        try (with_reducible rfl)
      simp only [Act.put, List.setIfInBounds_toArray, List.set_cons_zero, List.set_cons_succ]
      have c0 := hS3.cell 0 rfl
      have f0 := hS3.frozen 0
      have s1 := hS3.set 0 (.bool x'.any)
      have c1 := s1.cell 1 rfl
      have f1 := s1.frozen 1
      have s2 := s1.set 1 (.int .u16 x'.last)
      have c2 := s2.cell 2 rfl
      have f2 := s2.frozen 2
      have s3 := s2.set 2 (.int .u32 x'.mask)
      simp only [List.set] at s3
      have S3 := Lib.hid s3
      clear s1 s2 s3 hS3
      refine Mix.at_step (i := 11) rfl (by kernel_rfl) (by kernel_rfl) (by rfl) ?_
      unfold Oper.wp
      go_simp
      refine ⟨S3.out.tail, ?_⟩
      refine Mix.at_tail _ rfl rfl (by kernel_rfl) ?_
      simp only [List.drop_succ_cons, List.drop_zero]
      go_wp2_with fail
      go_meet
      exact ⟨_, rfl, rfl, S3.out⟩
  case rest =>
    obtain ⟨wb, rfl, rfl, hc⟩ := hcut
    cases ok with
    | false =>
      have HC := Lib.hid hc
      clear hc HH hlt
      go_wp2_with fail
      exact bodyPost_ret (results_tmp2 rfl _ _ _) rfl (.inl ⟨by rw [HTK.out], rfl, _, HC.out.tail.tail⟩)
    | true =>
      have q0 := hc.cell 0 (v := .bool x'.any) rfl
      have q1 := hc.cell 1 (v := .int .u16 x'.last) rfl
      have q2 := hc.cell 2 (v := .int .u32 x'.mask) rfl
      have k0 := hc.up2
      have c1 := k0.cell 1 rfl
      have f1 := k0.frozen 1
      have k1 := k0.set 1 (.bool x'.any)
      have c2 := k1.cell 2 rfl
      have f2 := k1.frozen 2
      have k2 := k1.set 2 (.int .u16 x'.last)
      have c3 := k2.cell 3 rfl
      have f3 := k2.frozen 3
      have k3 := k2.set 3 (.int .u32 x'.mask)
      simp only [List.set] at k3
      have g1 := k3.up2.cell 1 rfl
      have g2 := k3.up2.cell 2 rfl
      have g3 := k3.up2.cell 3 rfl
      have K3 := Lib.hid k3
      clear hc k0 k1 k2 k3 HH
      go_upto_region 6 with (fail)
      clear q0 q1 q2 c1 f1 c2 f2 c3 f3 hlt
      generalize (((wc.setCell { block := b, off := 1 } (Value.bool x'.any)).setCell { block := b, off := 2 } (Value.int IntKind.u16 x'.last)).setCell { block := b, off := 3 } (Value.int IntKind.u32 x'.mask)) = w5 at *
      have hB := K3.out.alloc [.bool hany, .int .u16 a, .int .u32 m] 80
      have HB := Lib.hid hB
      clear hB K3
      go_wp2_with fail
      generalize w5.alloc (.cells #[.bool hany, .int .u16 a, .int .u32 m] 80) = w6 at *
      obtain ⟨g9, hg9⟩ : ∃ g9, w5.heap.size = g9 := ⟨_, rfl⟩
      rw [hg9] at HB ⊢
      have hz := Holds.sel [_, _, _, _, _] HB.out [4, 0, 1] rfl
      simp only [pick, List.getElem?_cons_succ, List.getElem?_cons_zero, List.append_eq, List.cons_append, List.nil_append] at hz
      have HZ := Lib.hid (hz.nilrow 22 1)
      clear hz hg9 g1 g2 g3 HB
      obtain ⟨p, hp⟩ : ∃ p : Int → Bool, hasW ⟨hany, a, m⟩ = p := ⟨_, rfl⟩
      have HP := Lib.hid hp
      clear hp
      go_loopw [8, 10] (fun ov i wr => ∃ k : Nat, Hid (k ≤ L.length) ∧ i = .int .i64 k ∧ Hid (Holds W B wr (.rw ov 22 1 ((opn 0 (L.take k)).filter p).length (u16s ((opn 0 (L.take k)).filter p)) :: .rw (.slice A L.length c) 4 1 L.length (bls (half p L k)) :: .st g9 [.bool hany, .int .u16 a, .int .u32 m] 80 :: .st b [.int .i64 (L.length : Int), .bool x'.any, .int .u16 x'.last, .int .u32 x'.mask, .slice A L.length c] 82 :: F)))
        (fun _ i _ => L.length - (intOf i).toNat)
      case atStart =>
        refine ⟨0, Lib.hid (Nat.zero_le _), rfl, ?_⟩
        rw [half_0]
        exact HZ
      case round =>
        obtain ⟨k, HK, rfl, HC⟩ := hrel
        clear HZ
        have e4 := HC.out.up3.cell 4 (v := .slice A L.length c) rfl
        obtain ⟨Ao, co, rfl⟩ := HC.out.slice
        by_cases hkn : k < L.length
        · obtain ⟨k0, k1, k2, k3⟩ := k_facts hkn HL.out
          obtain ⟨m0, m1, m2, m3⟩ := m_facts hkn HL.out
          obtain ⟨g, cap, he, _⟩ := HC.out.up1.row (Nat.lt_of_le_of_lt (Nat.zero_le _) hkn)
          simp only [Value.slice.injEq, true_and] at he
          obtain ⟨rfl, rfl⟩ := he
          have hlk : L[k]? = some L[k] := List.getElem?_eq_getElem hkn
          have hhk := (half_at p L k).trans hlk
          have ek := (HC.out.up1.rcell k (by rw [Nat.mul_one]; exact hkn)).trans (bls_at _ _ _ hhk)
          have fk := HC.out.up1.rfrozen k
          have hnx := opn_filter_take (p := p) hlk
          have hst := fun h => half_stays (p := p) hlk h
          have hse := half_next (p := p) hlk
          obtain ⟨bb, hbb⟩ : ∃ bb, L[k] = bb := ⟨_, rfl⟩
          rw [hbb] at ek hnx hst hse hhk
          have HHK := Lib.hid hhk
          clear hhk
          obtain ⟨hv, hhv⟩ : ∃ hv, p (k : Int) = hv := ⟨_, rfl⟩
          rw [hhv] at hnx hst hse
          have hln : ((opn 0 (L.take k)).filter p).length ≤ 1000 := Nat.le_trans (List.length_filter_le _ _) (by rw [opn_len]; exact Nat.le_trans (List.count_le_length ..) (Nat.le_trans (List.length_take_le _ _) (Nat.le_trans (Nat.le_of_lt hkn) HL.out)))
          have hk65 : (k : Int) ≤ 65535 := by have := HL.out; omega
          have HLN := Lib.hid hln
          have HNX := Lib.hid hnx
          have HST := Lib.hid (And.intro hst hse)
          have HKN := Lib.hid hkn
          have HHV := Lib.hid (And.intro hhv hk65)
          clear hlk hbb hln hnx hkn hst hse hhv hk65
          cases bb with
          | false =>
            have hnx := HNX.out
            rw [Bool.false_and, if_neg (by decide), List.append_nil] at hnx
            have HN2 := Lib.hid hnx
            have HS2 := Lib.hid (HST.out.1 rfl)
            clear hnx HNX HST
            go_wp2_with fail
            refine ⟨⟨k + 1, Lib.hid HKN.out, by go_num, ?_⟩, by have := HKN.out; simp [intOf]; omega⟩
            rw [HN2.out, HS2.out]
            exact HC
          | true =>
            have w0 := HC.out.up2.cell 0 (v := .bool hany) rfl
            have w1 := HC.out.up2.cell 1 (v := .int .u16 a) rfl
            have w2 := HC.out.up2.cell 2 (v := .int .u32 m) rfl
            have hq := R4.rhas wr hany a m (k : Int) HOK.out.1 HOK.out.2.1 (Int.natCast_nonneg _) HHV.out.2 HOK.out.2.2.1 HOK.out.2.2.2
            rw [show hasW ⟨hany, a, m⟩ (k : Int) = hv by rw [HP.out]; exact HHV.out.1] at hq
            have HQ := Lib.hid hq
            clear hq
            go_wp2_with fail
            refine HQ.out.mono ?_
            rintro e' w7 ⟨rfl, hb7⟩
            have h8 := hbelowed' HC.out hb7
            clear hb7 HC w0 w1 w2 ek e4 HQ fk
            have e4 := h8.up3.cell 4 rfl
            have ek := (h8.up1.rcell k (by rw [Nat.mul_one]; exact HKN.out)).trans (bls_at _ _ _ HHK.out)
            cases hv with
            | false =>
              have hnx := HNX.out
              rw [Bool.and_false, if_neg (by decide), List.append_nil] at hnx
              have HN2 := Lib.hid hnx
              have HS2 := Lib.hid (HST.out.1 rfl)
              have H8 := Lib.hid h8
              clear hnx HNX HST h8 ek
              go_wp2_with fail
              refine ⟨⟨k + 1, Lib.hid HKN.out, by go_num, ?_⟩, by have := HKN.out; simp [intOf]; omega⟩
              rw [HN2.out, HS2.out]
              exact H8
            | true =>
              have hnx := HNX.out
              rw [Bool.true_and, if_pos rfl] at hnx
              have hs2 := HST.out.2
              rw [show (true && !true) = false from rfl] at hs2
              have fk := h8.up1.rfrozen k
              have h9 := h8.up1.rset k (.bool false)
              rw [bls_set, ← hs2] at h9
              have h9 := (h9.up1).alloc' (.cells #[.int .u16 (k : Int)] 22)
              have HN2 := Lib.hid hnx
              have H9 := Lib.hid h9
              clear hnx HNX HST h8 h9 hs2
              go_wp2_with (at_builtin; refine wpList_append_one rfl (.tmp 63) (.tmp 67) _ rfl 22 i0 _ 1 2 Try.underlying27 hi hz0 hz1 hz2 rfl (by decide) rfl H9.out [.int .u16 (k : Int)] rfl rfl ?p1 ?p2 ?p3 ?p4 ?_)
              case p1 => intro j u hu; exact cell_one_at (by simp) (by simpa using hu)
              case p2 => intro u hu; simp at hu; rw [hu]; rfl
              case p3 => exact Nat.le_trans (Nat.succ_le_succ HLN.out) (by decide)
              case p4 => decide
              intro v3 w3 h3
              obtain ⟨A3, c3, rfl⟩ := h3.slice
              have hZ : Hid (Holds W B w3 (.rw (.slice A3 (((opn 0 (L.take k)).filter p).length + 1 : Nat) c3) 22 1 ((opn 0 (L.take (k + 1))).filter p).length (u16s ((opn 0 (L.take (k + 1))).filter p)) :: .rw (.slice (some ⟨g, 0, none⟩) L.length c) 4 1 L.length (bls (half p L (k + 1))) :: .st g9 [.bool hany, .int .u16 a, .int .u32 m] 80 :: .st b [.int .i64 (L.length : Int), .bool x'.any, .int .u16 x'.last, .int .u32 x'.mask, .slice (some ⟨g, 0, none⟩) L.length c] 82 :: F)) := by
                rw [HN2.out]
                rw [show u16s ((opn 0 (L.take k)).filter p ++ [(k : Int)]) = u16s ((opn 0 (L.take k)).filter p) ++ [.int .u16 (k : Int)] by simp [u16s], List.length_append, List.length_singleton]
                exact h3
              clear h3 H9 HN2 ek e4 fk
              go_wp2_with fail
              exact ⟨⟨k + 1, Lib.hid HKN.out, by go_num, hZ⟩, by have := HKN.out; simp [intOf]; omega⟩
        · obtain rfl : k = L.length := Nat.le_antisymm HK.out (Nat.le_of_not_lt hkn)
          have k1 : ¬ (L.length : Int) < (L.length : Int) := Int.lt_irrefl _
          rw [List.take_length, half_end] at HC
          have HC2 := Lib.hid (Holds.sel [_, _, _, _] HC.out [3, 1, 0] rfl)
          clear hkn HC
          go_wp2_with fail
          refine bodyPost_ret (results_tmp2 rfl _ _ _) rfl (.inr ⟨by rw [HTK.out], _, rfl, ?_⟩)
          rw [HTK.out, HP.out]
          unfold RS
          rw [clr_len]
          exact ⟨_, HC2.out⟩

end Go.Proofs.Ytlhlkjllihbokaa.R14
