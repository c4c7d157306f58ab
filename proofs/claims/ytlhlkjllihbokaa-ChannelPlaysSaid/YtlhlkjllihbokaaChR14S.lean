/- The reference's channel makes the next header; by the program. -/
import Derived.Test.YtlhlkjllihbokaaChR14T
import Derived.Test.YtlhlkjllihbokaaQTail
set_option linter.unusedVariables false
set_option linter.unusedSimpArgs false
namespace Go.Proofs.Ytlhlkjllihbokaa.R14
open Go.Sort Go.RowKit Go.Proofs.Ytlhlkjllihbokaa.Mem Go.Proofs.Ytlhlkjllihbokaa.Open Go.Proofs.Ytlhlkjllihbokaa.Num Go.Proofs.Ytlhlkjllihbokaa.Step Go.Proofs.Ytlhlkjllihbokaa.Ser Go.Proofs.Ytlhlkjllihbokaa.Chan Go.Proofs.YtlhlkjllihbokaaW.PrintWords

theorem s_facts {N : Nat} (h : N ≤ 900) : (N : Int).tmod 65536 = (N : Int) ∧ (N : Int) % 65536 = (N : Int) ∧ IntKind.u16.wrap (N : Int) = (N : Int) ∧ IntKind.i64.wrap (N : Int) = (N : Int) ∧ IntKind.i64.wrap ((N : Int) + 1) = (N : Int) + 1 := by
  rw [wrap_i64, wrap_i64, wrap_u16, Int.tmod_eq_emod_of_nonneg (by omega)]; unfold wrap64; omega
theorem d_facts {m n : Nat} (h : m < n) (hn : n ≤ 1000) : (0 : Int) ≤ (m : Int) ∧ (m : Int) < (n : Int) ∧ IntKind.i64.wrap ((m : Int) - 1) = (m : Int) - 1 ∧ wrap64 ((m : Int) - 1) = (m : Int) - 1 ∧ ((m + 1 : Nat) : Int) - 1 = (m : Int) := by
  rw [wrap_i64]; unfold wrap64; omega
theorem pred_cast (n : Nat) : ((n + 1 : Nat) : Int) - 1 = (n : Int) := by omega
theorem down_m {m : Nat} : (intOf (Value.int .i64 ((m : Int) - 1)) + 1).toNat < (intOf (Value.int .i64 (m : Int)) + 1).toNat := by simp [intOf]
theorem c_facts {c : Nat} (h : c ≤ 1000) : IntKind.i64.wrap ((c : Int) + 1) = (c : Int) + 1 ∧ wrap64 ((c : Int) + 1) = (c : Int) + 1 := by
  rw [wrap_i64]; unfold wrap64; omega
theorem le64 {c : Nat} : decide ((c : Int) + 1 ≤ 64) = decide (c + 1 ≤ 64) := by
  by_cases h : c + 1 ≤ 64
  · rw [decide_eq_true h, decide_eq_true (by omega)]
  · rw [decide_eq_false h, decide_eq_false (by omega)]

theorem cella {w : World} {a : Addr} {u : Value} {o : Obj} (h : w.cell? a = some u) : (w.alloc o).cell? a = some u := by
  rw [World.cell?_alloc_lt _ _ _ (World.block_lt_of_cell? w a h)]; exact h

set_option maxRecDepth 100000 in
set_option maxHeartbeats 4000000 in
theorem rcsend (W : World) (B : Nat) (w : World) (b : Nat) (x : Win) (L : List Bool) (F : List Ent) (hl : L.length ≤ 900) (hH : RS W B w b x L F) :
    Calls Try.prog 33 #[.pointer (some ⟨b, 0, none⟩)] w fun e' w' => e' = .returned (.agg #[.int .u16 (L.length : Int), .bool x.any, .int .u16 x.last, .int .u32 x.mask]) ∧ RS W B w' b x (kept (L ++ [true])) F := by
  obtain ⟨i1, ji, jz0, jz1, jz2⟩ := info_parts info_bool
  obtain ⟨v, hH⟩ := hH
  obtain ⟨A, c, rfl⟩ := hH.up1.slice
  obtain ⟨any, last, mask⟩ := x
  obtain ⟨N, hN⟩ : ∃ N, L.length = N := ⟨_, rfl⟩
  rw [hN] at hl hH ⊢
  obtain ⟨n1, n2, n3, n4, n5⟩ := s_facts hl
  dsimp only at hH ⊢
  have h1 := hH.alloc [.int .u16 0, .bool false, .int .u16 0, .int .u32 0] 65
  have e0 := h1.up1.cell 0 rfl
  have e1 := h1.up1.cell 1 rfl
  have e2 := h1.up1.cell 2 rfl
  have e3 := h1.up1.cell 3 rfl
  have hlt : w.heap.size < (w.alloc (.cells #[.int .u16 0, .bool false, .int .u16 0, .int .u32 0] 65)).heap.size := h1.lt
  have H1 := Lib.hid h1
  have HN := Lib.hid hN
  have HL := Lib.hid hl
  clear h1 hH hN hl
  go_enter Try.func33, Try.ntmps33
  go_wp2_with fail
  generalize w.alloc (.cells #[.int .u16 0, .bool false, .int .u16 0, .int .u32 0] 65) = w1 at *
  obtain ⟨r0, hr0⟩ : ∃ r0, w.heap.size = r0 := ⟨_, rfl⟩
  rw [hr0] at H1 hlt ⊢
  clear hr0
  have hS1 : w1.drew.cell? ⟨b, 0, none⟩ = some (.int .i64 (N : Int)) ∧ w1.drew.cell? ⟨b, 1, none⟩ = some (.bool any) ∧ w1.drew.cell? ⟨b, 2, none⟩ = some (.int .u16 last) ∧ w1.drew.cell? ⟨b, 3, none⟩ = some (.int .u32 mask) := ⟨e0, e1, e2, e3⟩
  clear e0 e1 e2 e3
  refine Mix.region 23 (fun w' => w'.cell? ⟨b, 0, none⟩ = some (.int .i64 (N : Int)) ∧ w'.cell? ⟨b, 1, none⟩ = some (.bool any) ∧ w'.cell? ⟨b, 2, none⟩ = some (.int .u16 last) ∧ w'.cell? ⟨b, 3, none⟩ = some (.int .u32 mask)) (by kernel_rfl) ?_
  simp only [List.size_toArray, List.length_cons, List.length_nil]
  refine Mix.at_take (i := 0) (v := ?_) rfl (by kernel_rfl) (by kernel_rfl) (by kernel_rfl) (by kernel_rfl) (by kernel_rfl) (by kernel_rfl) (by kernel_rfl) (fun _ _ _ h => h) (Or.inl ⟨by rfl, ?_⟩) hS1 ?_
  rotate_left
  · intro w hSw
    (try dsimp only at hSw)
    go_simp
    try (with_reducible rfl)
  simp only [Act.put, List.setIfInBounds_toArray, List.set_cons_zero, List.set_cons_succ]
  refine Mix.at_take (i := 1) (v := ?_) rfl (by kernel_rfl) (by kernel_rfl) (by kernel_rfl) (by kernel_rfl) (by kernel_rfl) (by kernel_rfl) (by kernel_rfl) (fun _ _ _ h => h) (Or.inl ⟨by rfl, ?_⟩) hS1 ?_
  rotate_left
  · intro w hSw
    (try dsimp only at hSw)
    go_simp
    try (with_reducible rfl)
  simp only [Act.put, List.setIfInBounds_toArray, List.set_cons_zero, List.set_cons_succ]
  refine Mix.at_take (i := 2) (v := ?_) rfl (by kernel_rfl) (by kernel_rfl) (by kernel_rfl) (by kernel_rfl) (by kernel_rfl) (by kernel_rfl) (by kernel_rfl) (fun _ _ _ h => h) (Or.inl ⟨by rfl, ?_⟩) hS1 ?_
  rotate_left
  · intro w hSw
    (try dsimp only at hSw)
    go_simp
    try (with_reducible rfl)
  simp only [Act.put, List.setIfInBounds_toArray, List.set_cons_zero, List.set_cons_succ]
  refine Mix.at_take (i := 3) (v := ?_) rfl (by kernel_rfl) (by kernel_rfl) (by kernel_rfl) (by kernel_rfl) (by kernel_rfl) (by kernel_rfl) (by kernel_rfl) (fun _ _ _ h => h) (Or.inl ⟨by rfl, ?_⟩) hS1 ?_
  rotate_left
  · intro w hSw
    (try dsimp only at hSw)
    go_simp
    try (with_reducible rfl)
  simp only [Act.put, List.setIfInBounds_toArray, List.set_cons_zero, List.set_cons_succ]
  refine Mix.at_take (i := 4) (v := ?_) rfl (by kernel_rfl) (by kernel_rfl) (by kernel_rfl) (by kernel_rfl) (by kernel_rfl) (by kernel_rfl) (by kernel_rfl) (fun _ _ _ h => h) (Or.inl ⟨by rfl, ?_⟩) hS1 ?_
  rotate_left
  · intro w hSw
    (try dsimp only at hSw)
    go_simp
    try (with_reducible rfl)
  simp only [Act.put, List.setIfInBounds_toArray, List.set_cons_zero, List.set_cons_succ]
  refine Mix.at_take (i := 5) (v := ?_) rfl (by kernel_rfl) (by kernel_rfl) (by kernel_rfl) (by kernel_rfl) (by kernel_rfl) (by kernel_rfl) (by kernel_rfl) (fun _ _ _ h => h) (Or.inl ⟨by rfl, ?_⟩) hS1 ?_
  rotate_left
  · intro w hSw
    (try dsimp only at hSw)
    go_simp
    try (with_reducible rfl)
  simp only [Act.put, List.setIfInBounds_toArray, List.set_cons_zero, List.set_cons_succ]
  refine Mix.at_take (i := 6) (v := ?_) rfl (by kernel_rfl) (by kernel_rfl) (by kernel_rfl) (by kernel_rfl) (by kernel_rfl) (by kernel_rfl) (by kernel_rfl) (fun _ _ _ h => h) (Or.inl ⟨by rfl, ?_⟩) hS1 ?_
  rotate_left
  · intro w hSw
    (try dsimp only at hSw)
    go_simp
    try (with_reducible rfl)
  simp only [Act.put, List.setIfInBounds_toArray, List.set_cons_zero, List.set_cons_succ]
  refine Mix.at_take (i := 7) (v := ?_) rfl (by kernel_rfl) (by kernel_rfl) (by kernel_rfl) (by kernel_rfl) (by kernel_rfl) (by kernel_rfl) (by kernel_rfl) (fun _ _ _ h => h) (Or.inl ⟨by rfl, ?_⟩) hS1 ?_
  rotate_left
  · intro w hSw
    (try dsimp only at hSw)
    go_simp
    try (with_reducible rfl)
  simp only [Act.put, List.setIfInBounds_toArray, List.set_cons_zero, List.set_cons_succ]
  refine Mix.at_take (i := 8) (v := ?_) rfl (by kernel_rfl) (by kernel_rfl) (by kernel_rfl) (by kernel_rfl) (by kernel_rfl) (by kernel_rfl) (by kernel_rfl) (fun _ _ _ h => h) (Or.inl ⟨by rfl, ?_⟩) hS1 ?_
  rotate_left
  · intro w hSw
    (try dsimp only at hSw)
    go_simp
    try (with_reducible rfl)
  simp only [Act.put, List.setIfInBounds_toArray, List.set_cons_zero, List.set_cons_succ]
  refine Mix.at_take (i := 9) (v := ?_) rfl (by kernel_rfl) (by kernel_rfl) (by kernel_rfl) (by kernel_rfl) (by kernel_rfl) (by kernel_rfl) (by kernel_rfl) (fun _ _ _ h => h) (Or.inl ⟨by rfl, ?_⟩) hS1 ?_
  rotate_left
  · intro w hSw
    (try dsimp only at hSw)
    go_simp
    try (with_reducible rfl)
  simp only [Act.put, List.setIfInBounds_toArray, List.set_cons_zero, List.set_cons_succ]
  refine Mix.at_take (i := 10) (v := ?_) rfl (by kernel_rfl) (by kernel_rfl) (by kernel_rfl) (by kernel_rfl) (by kernel_rfl) (by kernel_rfl) (by kernel_rfl) (fun _ _ _ h => h) (Or.inl ⟨by rfl, ?_⟩) hS1 ?_
  rotate_left
  · intro w hSw
    (try dsimp only at hSw)
    go_simp
    try (with_reducible rfl)
  simp only [Act.put, List.setIfInBounds_toArray, List.set_cons_zero, List.set_cons_succ]
  refine Mix.at_take (i := 11) (v := ?_) rfl (by kernel_rfl) (by kernel_rfl) (by kernel_rfl) (by kernel_rfl) (by kernel_rfl) (by kernel_rfl) (by kernel_rfl) (fun _ _ _ h => h) (Or.inl ⟨by rfl, ?_⟩) hS1 ?_
  rotate_left
  · intro w hSw
    (try dsimp only at hSw)
    go_simp
    try (with_reducible rfl)
  simp only [Act.put, List.setIfInBounds_toArray, List.set_cons_zero, List.set_cons_succ]
  refine Mix.at_take (i := 12) (v := ?_) rfl (by kernel_rfl) (by kernel_rfl) (by kernel_rfl) (by kernel_rfl) (by kernel_rfl) (by kernel_rfl) (by kernel_rfl) (fun _ _ _ h => h) (Or.inl ⟨by rfl, ?_⟩) hS1 ?_
  rotate_left
  · intro w hSw
    (try dsimp only at hSw)
    go_simp
    try (with_reducible rfl)
  simp only [Act.put, List.setIfInBounds_toArray, List.set_cons_zero, List.set_cons_succ]
  refine Mix.at_take (i := 13) (v := ?_) rfl (by kernel_rfl) (by kernel_rfl) (by kernel_rfl) (by kernel_rfl) (by kernel_rfl) (by kernel_rfl) (by kernel_rfl) (fun _ _ _ h => h) (Or.inl ⟨by rfl, ?_⟩) hS1 ?_
  rotate_left
  · intro w hSw
    (try dsimp only at hSw)
    go_simp
    try (with_reducible rfl)
  simp only [Act.put, List.setIfInBounds_toArray, List.set_cons_zero, List.set_cons_succ]
  refine Mix.at_take (i := 14) (v := ?_) rfl (by kernel_rfl) (by kernel_rfl) (by kernel_rfl) (by kernel_rfl) (by kernel_rfl) (by kernel_rfl) (by kernel_rfl) (fun _ _ _ h => h) (Or.inl ⟨by rfl, ?_⟩) hS1 ?_
  rotate_left
  · intro w hSw
    (try dsimp only at hSw)
    go_simp
    try (with_reducible rfl)
  simp only [Act.put, List.setIfInBounds_toArray, List.set_cons_zero, List.set_cons_succ]
  refine Mix.at_take (i := 15) (v := ?_) rfl (by kernel_rfl) (by kernel_rfl) (by kernel_rfl) (by kernel_rfl) (by kernel_rfl) (by kernel_rfl) (by kernel_rfl) (fun _ _ _ h => h) (Or.inl ⟨by rfl, ?_⟩) hS1 ?_
  rotate_left
  · intro w hSw
    (try dsimp only at hSw)
    go_simp
    try (with_reducible rfl)
  simp only [Act.put, List.setIfInBounds_toArray, List.set_cons_zero, List.set_cons_succ]
  refine Mix.at_take (i := 16) (v := ?_) rfl (by kernel_rfl) (by kernel_rfl) (by kernel_rfl) (by kernel_rfl) (by kernel_rfl) (by kernel_rfl) (by kernel_rfl) (fun _ _ _ h => h) (Or.inl ⟨by rfl, ?_⟩) hS1 ?_
  rotate_left
  · intro w hSw
    (try dsimp only at hSw)
    go_simp
    try (with_reducible rfl)
  simp only [Act.put, List.setIfInBounds_toArray, List.set_cons_zero, List.set_cons_succ]
  refine Mix.at_take (i := 17) (v := ?_) rfl (by kernel_rfl) (by kernel_rfl) (by kernel_rfl) (by kernel_rfl) (by kernel_rfl) (by kernel_rfl) (by kernel_rfl) (fun _ _ _ h => h) (Or.inl ⟨by rfl, ?_⟩) hS1 ?_
  rotate_left
  · intro w hSw
    (try dsimp only at hSw)
    go_simp
    try (with_reducible rfl)
  simp only [Act.put, List.setIfInBounds_toArray, List.set_cons_zero, List.set_cons_succ]
  refine Mix.at_take (i := 18) (v := ?_) rfl (by kernel_rfl) (by kernel_rfl) (by kernel_rfl) (by kernel_rfl) (by kernel_rfl) (by kernel_rfl) (by kernel_rfl) (fun _ _ _ h => h) (Or.inl ⟨by rfl, ?_⟩) hS1 ?_
  rotate_left
  · intro w hSw
    (try dsimp only at hSw)
    go_simp
    try (with_reducible rfl)
  simp only [Act.put, List.setIfInBounds_toArray, List.set_cons_zero, List.set_cons_succ]
  refine Mix.at_take (i := 19) (v := ?_) rfl (by kernel_rfl) (by kernel_rfl) (by kernel_rfl) (by kernel_rfl) (by kernel_rfl) (by kernel_rfl) (by kernel_rfl) (fun _ _ _ h => h) (Or.inl ⟨by rfl, ?_⟩) hS1 ?_
  rotate_left
  · intro w hSw
    (try dsimp only at hSw)
    go_simp
    try (with_reducible rfl)
  simp only [Act.put, List.setIfInBounds_toArray, List.set_cons_zero, List.set_cons_succ]
  refine Mix.at_take (i := 20) (v := ?_) rfl (by kernel_rfl) (by kernel_rfl) (by kernel_rfl) (by kernel_rfl) (by kernel_rfl) (by kernel_rfl) (by kernel_rfl) (fun _ _ _ h => h) (Or.inl ⟨by rfl, ?_⟩) hS1 ?_
  rotate_left
  · intro w hSw
    (try dsimp only at hSw)
    go_simp
    try (with_reducible rfl)
  simp only [Act.put, List.setIfInBounds_toArray, List.set_cons_zero, List.set_cons_succ]
  refine Mix.at_take (i := 21) (v := ?_) rfl (by kernel_rfl) (by kernel_rfl) (by kernel_rfl) (by kernel_rfl) (by kernel_rfl) (by kernel_rfl) (by kernel_rfl) (fun _ _ _ h => h) (Or.inl ⟨by rfl, ?_⟩) hS1 ?_
  rotate_left
  · intro w hSw
    (try dsimp only at hSw)
    go_simp
    try (with_reducible rfl)
  simp only [Act.put, List.setIfInBounds_toArray, List.set_cons_zero, List.set_cons_succ]
  refine Mix.at_step (i := 22) rfl (by kernel_rfl) (by kernel_rfl) (by rfl) ?_
  unfold Oper.wp
  go_simp
  have h3 := (H1.out.alloc [.int .u16 (N : Int), .bool any, .int .u16 last, .int .u32 mask] 65).drew
  have H3 := Lib.hid h3
  refine ⟨⟨R14.cella hS1.1, R14.cella hS1.2.1, R14.cella hS1.2.2.1, R14.cella hS1.2.2.2⟩, ?_⟩
  refine Mix.at_tail _ rfl rfl (by kernel_rfl) ?_
  simp only [List.drop_succ_cons, List.drop_zero]
  clear hS1 h3 H1
  go_upto_region 2 with (fail)
  generalize (w1.alloc (.cells #[.int .u16 (N : Int), .bool any, .int .u16 last, .int .u32 mask] 65)).drew = w3 at *
  obtain ⟨g3, hg3⟩ : ∃ g3, w1.heap.size = g3 := ⟨_, rfl⟩
  rw [hg3] at H3 hlt ⊢
  have e4 := H3.out.up2.cell 4 (v := .slice A N c) rfl
  have hltb : b < w3.heap.size := H3.out.up2.lt
  have h4 := Holds.sel [_, _, _, _] (H3.out.alloc' (.cells #[.bool true] 4)) [3, 2, 0, 1] rfl
  simp only [pick, List.getElem?_cons_succ, List.getElem?_cons_zero, List.append_eq, List.cons_append, List.nil_append] at h4
  have H4 := Lib.hid h4
  clear h4 H3 hg3 hlt
  go_wp2_with (at_builtin; refine wpList_append_one rfl (.tmp 32) (.tmp 33) _ rfl 4 i1 _ 1 1 Try.underlying45 ji jz0 jz1 jz2 rfl (by decide) rfl H4.out [.bool true] rfl rfl (one_new _ _ _) (one_bool _) (few' HL.out (Nat.le_of_ble_eq_true rfl)) (Nat.le_of_ble_eq_true rfl) ?_)
  intro v5 w5 h5
  obtain ⟨A5, c5, rfl⟩ := h5.slice
  have e0 := h5.up1.cell 0 rfl
  have e4 := h5.up1.cell 4 rfl
  have f4 := h5.up1.frozen 4
  have h6 := h5.up1.set 4 (.slice A5 (N + 1 : Nat) c5)
  simp only [List.set] at h6
  have z0 := h6.cell 0 rfl
  have g0 := h6.frozen 0
  have h7 := h6.set 0 (.int .i64 ((N : Int) + 1))
  simp only [List.set] at h7
  have z4 := h7.cell 4 rfl
  have HL1 : Hid ((L ++ [true]).length = N + 1) := by rw [List.length_append, HN.out]; rfl
  obtain ⟨L1, hL1⟩ : ∃ L1, L ++ [true] = L1 := ⟨_, rfl⟩
  rw [show bls L ++ [Value.bool true] = bls (L ++ [true]) by rw [bls_snoc], hL1] at h7
  rw [hL1] at HL1
  have HLL := Lib.hid hL1
  have H7 := Lib.hid h7
  clear h5 h6 h7 H4 hL1 hltb
  go_wp2_with fail
  have hbl := Lib.hid (show A5 = A5 from rfl)
  go_loopw [4, 5] (fun nv iv wr => ∃ j : Nat, Hid (j ≤ N + 1) ∧ iv = .int .i64 ((j : Int) - 1) ∧ nv = .int .i64 (((L1.drop j).count true : Nat) : Int) ∧ Hid (Holds W B wr (.rw (.slice A5 (N + 1 : Nat) c5) 4 1 (N + 1) (bls (keep L1 j)) :: .st b [.int .i64 ((N : Int) + 1), .bool any, .int .u16 last, .int .u32 mask, .slice A5 (N + 1 : Nat) c5] 82 :: .st g3 [.int .u16 (N : Int), .bool any, .int .u16 last, .int .u32 mask] 65 :: .st r0 [.int .u16 0, .bool false, .int .u16 0, .int .u32 0] 65 :: F)))
    (fun _ iv _ => (intOf iv + 1).toNat)
  case atStart =>
    refine ⟨N + 1, Lib.hid (Nat.le_refl _), ?_, ?_, ?_⟩
    · rw [show ((N + 1 : Nat) : Int) - 1 = (N : Int) from pred_cast N]
    · rw [List.drop_of_length_le (Nat.le_of_eq HL1.out)]; rfl
    · rw [← HL1.out, keep_end, HL1.out]
      exact Lib.hid H7.out.up1
  case round =>
    obtain ⟨j, HJ, rfl, rfl, HC⟩ := hrel
    clear H7
    cases j with
    | zero =>
      have hz := HC.out
      rw [keep_0] at hz
      have HZ := Lib.hid hz
      have q0 := hz.up2.cell 0 (v := .int .u16 (N : Int)) rfl
      have q1 := hz.up2.cell 1 (v := .bool any) rfl
      have q2 := hz.up2.cell 2 (v := .int .u16 last) rfl
      have q3 := hz.up2.cell 3 (v := .int .u32 mask) rfl
      have s0 := hz.up3
      have c0 := s0.cell 0 rfl
      have f0 := s0.frozen 0
      have s1 := s0.set 0 (.int .u16 (N : Int))
      have c1 := s1.cell 1 rfl
      have f1 := s1.frozen 1
      have s2 := s1.set 1 (.bool any)
      have c2 := s2.cell 2 rfl
      have f2 := s2.frozen 2
      have s3 := s2.set 2 (.int .u16 last)
      have c3 := s3.cell 3 rfl
      have f3 := s3.frozen 3
      have s4 := s3.set 3 (.int .u32 mask)
      simp only [List.set] at s4
      have S4 := Lib.hid s4
      clear s0 s1 s2 s3 s4 hz HZ HC
      rw [show ((0 : Nat) : Int) - 1 = -1 from rfl]
      go_wp2_with fail
      have hz := S4.out
      refine bodyPost_ret (results_cell_row rfl _ _ _ _ _ _ _ rfl hz.head.2 Try.underlying65 rfl (by kernel_rfl)) rfl ?_
      refine ⟨rfl, ?_⟩
      unfold RS
      rw [HLL.out, kept_len, HL1.out]
      exact ⟨_, Holds.sel [_, _, _, _] hz [2, 1] rfl⟩
    | succ m =>
      have hmN : m < N + 1 := HJ.out
      have hN1 : N + 1 ≤ 1000 := Nat.le_trans (Nat.succ_le_succ HL.out) (by decide)
      obtain ⟨d0, d1, d2, d3, d4⟩ := d_facts hmN hN1
      rw [d4]
      have hlt1 : m < L1.length := by rw [HL1.out]; exact hmN
      have hlk : L1[m]? = some L1[m] := List.getElem?_eq_getElem hlt1
      obtain ⟨g, cap, he, _⟩ := HC.out.row (Nat.succ_pos _)
      simp only [Value.slice.injEq, true_and] at he
      obtain ⟨rfl, rfl⟩ := he
      have hka := (keep_at L1 m hlt1).trans hlk
      have hkn := keep_next L1 m _ hlk
      have hcd := count_drop L1 m _ hlk
      obtain ⟨bb, hbb⟩ : ∃ bb, L1[m] = bb := ⟨_, rfl⟩
      rw [hbb] at hka hkn hcd
      have e4 := HC.out.up1.cell 4 rfl
      have ek := (HC.out.rcell m (by rw [Nat.mul_one]; exact hmN)).trans (bls_at _ _ _ hka)
      have fk := HC.out.rfrozen m
      obtain ⟨cc, hcc⟩ : ∃ cc, (L1.drop (m + 1)).count true = cc := ⟨_, rfl⟩
      have hcl : cc ≤ 1000 := by rw [← hcc]; exact Nat.le_trans (List.count_le_length ..) (by rw [List.length_drop, HL1.out]; exact Nat.le_trans (Nat.sub_le _ _) hN1)
      rw [hcc] at hcd ⊢
      obtain ⟨t0, t1⟩ := c_facts hcl
      have HX := Lib.hid (And.intro hkn hcd)
      have hka0 := hka
      have HM := Lib.hid hmN
      clear hlk hka hkn hcd hbb hcc hcl hmN hN1 hlt1 d3 d4
      have HKA := Lib.hid hka0
      clear hka0
      have E4 := cell_regrown e4
      have EK := cell_regrown ek
      cases bb with
      | false =>
        have hk := HX.out.1
        rw [Bool.false_and] at hk
        have hcd := HX.out.2
        rw [if_neg (by decide), Nat.add_zero] at hcd
        have HK := Lib.hid hk
        have HCD := Lib.hid hcd
        clear hk hcd HX
        go_wp2_with fail
        refine QTail.region_tail_below 17 (by kernel_rfl) (by kernel_rfl) ?_
        simp only [List.take_succ_cons, List.take_zero, List.drop_succ_cons, List.drop_zero]
        repeat (go_big_quiet_step (fail))
        refine wpQuiet_nil ?_
        intro _ hw'
        obtain ⟨⟨dq, osq⟩, hw''⟩ := hw'
        subst hw''
        have hbx := below_regrown wr dq osq
        clear E4 EK
        generalize grow (redrawn wr dq) osq = w4 at *
        have h5 := hbelowed' HC.out hbx
        have ek := (h5.rcell m (by rw [Nat.mul_one]; exact HM.out)).trans (bls_at _ _ _ HKA.out)
        have fk := h5.rfrozen m
        have h6 := h5.rset m (.bool false)
        rw [bls_set, ← HK.out] at h6
        have H6 := Lib.hid h6
        clear h5 h6 hbx HC
        go_wp2_with fail
        refine ⟨⟨m, Lib.hid (Nat.le_of_lt HM.out), rfl, ?_, H6⟩, down_m⟩
        rw [HCD.out]
      | true =>
        have hcd := HX.out.2
        rw [if_pos rfl] at hcd
        have hk := HX.out.1
        rw [Bool.true_and, hcd] at hk
        have HCD := Lib.hid hcd
        by_cases h64 : cc + 1 ≤ 64
        · rw [decide_eq_true h64] at hk
          have t3 : decide ((cc : Int) + 1 ≤ 64) = true := by rw [le64]; exact decide_eq_true h64
          have t4 : (cc : Int) + 1 ≤ 64 := of_decide_eq_true t3
          have HK := Lib.hid hk
          clear hk hcd HX h64
          go_wp2_with fail
          refine QTail.region_tail_below 17 (by kernel_rfl) (by kernel_rfl) ?_
          simp only [List.take_succ_cons, List.take_zero, List.drop_succ_cons, List.drop_zero]
          repeat (go_big_quiet_step (fail))
          refine wpQuiet_nil ?_
          intro _ hw'
          obtain ⟨⟨dq, osq⟩, hw''⟩ := hw'
          subst hw''
          have hbx := below_regrown wr dq osq
          clear E4 EK
          generalize grow (redrawn wr dq) osq = w4 at *
          have h5 := hbelowed' HC.out hbx
          have ek := (h5.rcell m (by rw [Nat.mul_one]; exact HM.out)).trans (bls_at _ _ _ HKA.out)
          have fk := h5.rfrozen m
          have h6 := h5.rset m (.bool true)
          rw [bls_set, ← HK.out] at h6
          have H6 := Lib.hid h6
          clear h5 h6 hbx HC
          go_wp2_with fail
          refine ⟨⟨m, Lib.hid (Nat.le_of_lt HM.out), rfl, ?_, H6⟩, down_m⟩
          rw [HCD.out]
          rfl
        · rw [decide_eq_false h64] at hk
          have t3 : decide ((cc : Int) + 1 ≤ 64) = false := by rw [le64]; exact decide_eq_false h64
          have t4 : ¬ (cc : Int) + 1 ≤ 64 := of_decide_eq_false t3
          have HK := Lib.hid hk
          clear hk hcd HX h64
          go_wp2_with fail
          refine QTail.region_tail_below 17 (by kernel_rfl) (by kernel_rfl) ?_
          simp only [List.take_succ_cons, List.take_zero, List.drop_succ_cons, List.drop_zero]
          repeat (go_big_quiet_step (fail))
          refine wpQuiet_nil ?_
          intro _ hw'
          obtain ⟨⟨dq, osq⟩, hw''⟩ := hw'
          subst hw''
          have hbx := below_regrown wr dq osq
          clear E4 EK
          generalize grow (redrawn wr dq) osq = w4 at *
          have h5 := hbelowed' HC.out hbx
          have ek := (h5.rcell m (by rw [Nat.mul_one]; exact HM.out)).trans (bls_at _ _ _ HKA.out)
          have fk := h5.rfrozen m
          have h6 := h5.rset m (.bool false)
          rw [bls_set, ← HK.out] at h6
          have H6 := Lib.hid h6
          clear h5 h6 hbx HC
          go_wp2_with fail
          refine ⟨⟨m, Lib.hid (Nat.le_of_lt HM.out), rfl, ?_, H6⟩, down_m⟩
          rw [HCD.out]
          rfl

end Go.Proofs.Ytlhlkjllihbokaa.R14
