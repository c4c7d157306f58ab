/- One end of two channels: a datagram of the other one comes, that was sent. -/
import Derived.Test.YtlhlkjllihbokaaChTk
set_option linter.unusedVariables false
set_option linter.unusedSimpArgs false
namespace Go.Proofs.Ytlhlkjllihbokaa.Chan
open Go.Sort Go.RowKit Go.Proofs.Ytlhlkjllihbokaa.Mem Go.Proofs.Ytlhlkjllihbokaa.Open Go.Proofs.Ytlhlkjllihbokaa.Num Go.Proofs.Ytlhlkjllihbokaa.Step Go.Proofs.Ytlhlkjllihbokaa.Ser Go.Proofs.YtlhlkjllihbokaaW.PrintWords

theorem cells_of {W w : World} {B e b e2 b2 g c : Nat} {vs va vc va2 vc2 vo vo2 : Value} {x y : End} {k : Nat} {n a m : Int} {any : Bool} {op : List Int} {cs : List Value} {F : List Ent} (hh : Holds W B w (.st e [.pointer (some ⟨b, 0, none⟩), vs, va, vc] 47 :: .st b cs 43 :: .rw vo 22 1 op.length (u16s op) ::
      .rw vs 56 4 x.sent.length (hcells x.sent) :: .rw va 4 1 x.sent.length (bls x.acked) :: .rw vc 4 1 x.sent.length (bls x.came) :: .st e2 [.pointer (some ⟨b2, 0, none⟩), .slice (some ⟨g, 0, none⟩) y.sent.length c, va2, vc2] 47 ::
      .st b2 [.int .u16 (y.sent.length : Int), .bool y.win.any, .int .u16 y.win.last, .int .u32 y.win.mask, vo2] 43 :: .rw vo2 22 1 y.op.length (u16s y.op) :: .rw (.slice (some ⟨g, 0, none⟩) y.sent.length c) 56 4 y.sent.length (hcells y.sent) :: F))
    (hk : k < y.sent.length) (hs : y.sent[k] = ⟨n, any, a, m⟩) {N : Nat} (hN : y.sent.length = N) :
    w.cell? ⟨e, 0, none⟩ = some (.pointer (some ⟨b, 0, none⟩)) ∧ w.cell? ⟨e2, 1, none⟩ = some (.slice (some ⟨g, 0, none⟩) N c) ∧ w.cell? ⟨g, k * 4, none⟩ = some (.int .u16 n) ∧ w.cell? ⟨g, k * 4 + 1, none⟩ = some (.bool any) ∧ w.cell? ⟨g, k * 4 + 2, none⟩ = some (.int .u16 a) ∧ w.cell? ⟨g, k * 4 + 3, none⟩ = some (.int .u32 m) := by
  subst hN
  have h9 := Holds.sel [_, _, _, _, _, _, _, _, _, _] hh [9] rfl
  have h6 := Holds.sel [_, _, _, _, _, _, _, _, _, _] hh [6] rfl
  simp only [pick, List.getElem?_cons_succ, List.getElem?_cons_zero, List.append_eq, List.cons_append, List.nil_append] at h9 h6
  have e0 := hh.cell 0 rfl
  have e1 := h6.cell 1 rfl
  have g0 := (h9.rcell (k * 4 + 0) (by omega)).trans (hcells_at y.sent k hk 0 (by decide))
  have g1 := (h9.rcell (k * 4 + 1) (by omega)).trans (hcells_at y.sent k hk 1 (by decide))
  have g2 := (h9.rcell (k * 4 + 2) (by omega)).trans (hcells_at y.sent k hk 2 (by decide))
  have g3 := (h9.rcell (k * 4 + 3) (by omega)).trans (hcells_at y.sent k hk 3 (by decide))
  rw [hs] at g0 g1 g2 g3
  exact ⟨e0, e1, g0, g1, g2, g3⟩

/-- The pieces while what is acknowledged is laid down. -/
def TkSt (W : World) (B : Nat) (wr : World) (e b e2 b2 : Nat) (x y : End) (win : Win) (op2 : List Int) (cm : List Bool) (vo vo2 vs va vc vs2 va2 vc2 vg : Value) (l : List Int) (F : List Ent) (ack : List Bool) : Prop :=
  Holds W B wr (.rw va 4 1 x.sent.length (bls ack) :: .st e [.pointer (some ⟨b, 0, none⟩), vs, va, vc] 47 :: .rw vs 56 4 x.sent.length (hcells x.sent) :: .rw vc 4 1 x.sent.length (bls x.came) ::
    .rw vg 22 1 l.length (u16s l) :: .rw vc2 4 1 y.sent.length (bls cm) ::
    .st b [.int .u16 (x.sent.length : Int), .bool win.any, .int .u16 win.last, .int .u32 win.mask, vo] 43 :: .rw vo 22 1 op2.length (u16s op2) ::
    .st e2 [.pointer (some ⟨b2, 0, none⟩), vs2, va2, vc2] 47 :: .st b2 [.int .u16 (y.sent.length : Int), .bool y.win.any, .int .u16 y.win.last, .int .u32 y.win.mask, vo2] 43 ::
    .rw vo2 22 1 y.op.length (u16s y.op) :: .rw vs2 56 4 y.sent.length (hcells y.sent) :: .rw va2 4 1 y.sent.length (bls y.acked) :: F)
theorem down_one {j n : Nat} (h : j < n) : n - (intOf (Value.int .i64 ((j : Int) + 1))).toNat < n - (intOf (Value.int .i64 (j : Int))).toNat := by simp [intOf]; omega
theorem n_facts {m n : Nat} (h : m < n) (hn : n ≤ 60000) : (0 : Int) ≤ (m : Int) ∧ (m : Int) < (n : Int) ∧ decide ((n : Int) ≤ (m : Int)) = false ∧ IntKind.i64.wrap (m : Int) = (m : Int) := by
  rw [wrap_i64]; unfold wrap64
  exact ⟨by omega, by omega, decide_eq_false (by omega), by omega⟩

set_option maxRecDepth 100000 in
set_option maxHeartbeats 4000000 in
theorem two_in (W : World) (B : Nat) (w : World) (e b e2 b2 : Nat) (x y : End) (k : Nat) (h : Hd) (F : List Ent) (hf : Fine x y k h) (hh : Two W B w e b x e2 b2 y F) :
    Calls Try.prog 20 #[.pointer (some ⟨e, 0, none⟩), .pointer (some ⟨e2, 0, none⟩), .int .i64 k] w fun e' w' => Took W B e b e2 b2 x y k h F e' w' := by
  have HF := Lib.hid hf
  obtain ⟨vo, vs, va, vc, vo2, vs2, va2, vc2, hh⟩ := hh
  have h9 := Holds.sel [_, _, _, _, _, _, _, _, _, _, _, _] hh [9] rfl
  simp only [pick, List.getElem?_cons_succ, List.getElem?_cons_zero, List.append_eq, List.cons_append, List.nil_append] at h9
  obtain ⟨g, c, rfl, _⟩ := h9.row (Nat.lt_of_le_of_lt (Nat.zero_le _) hf.lt)
  obtain ⟨A5, c5, rfl⟩ : ∃ A5 c5, va = .slice A5 x.sent.length c5 := by
    have := Holds.sel [_, _, _, _, _, _, _, _, _, _, _, _] hh [4] rfl
    simp only [pick, List.getElem?_cons_succ, List.getElem?_cons_zero, List.append_eq, List.cons_append, List.nil_append] at this
    exact this.slice
  obtain ⟨A6, c6, rfl⟩ : ∃ A6 c6, vc = .slice A6 x.sent.length c6 := by
    have := Holds.sel [_, _, _, _, _, _, _, _, _, _, _, _] hh [5] rfl
    simp only [pick, List.getElem?_cons_succ, List.getElem?_cons_zero, List.append_eq, List.cons_append, List.nil_append] at this
    exact this.slice
  obtain ⟨A7, c7, rfl⟩ : ∃ A7 c7, vs = .slice A7 x.sent.length c7 := by
    have := Holds.sel [_, _, _, _, _, _, _, _, _, _, _, _] hh [3] rfl
    simp only [pick, List.getElem?_cons_succ, List.getElem?_cons_zero, List.append_eq, List.cons_append, List.nil_append] at this
    exact this.slice
  have h11 := Holds.sel [_, _, _, _, _, _, _, _, _, _, _, _] hh [11] rfl
  simp only [pick, List.getElem?_cons_succ, List.getElem?_cons_zero, List.append_eq, List.cons_append, List.nil_append] at h11
  obtain ⟨gc, cc, rfl, _⟩ := h11.row (Nat.lt_of_le_of_lt (Nat.zero_le _) hf.lt)
  have e0 := hh.cell 0 rfl
  have h6 := Holds.sel [_, _, _, _, _, _, _, _, _, _, _, _] hh [6] rfl
  simp only [pick, List.getElem?_cons_succ, List.getElem?_cons_zero, List.append_eq, List.cons_append, List.nil_append] at h6
  have e1 := h6.cell 1 rfl
  have g0 := (h9.rcell (k * 4 + 0) (by have := hf.lt; omega)).trans (hcells_at y.sent k hf.lt 0 (by decide))
  have g1 := (h9.rcell (k * 4 + 1) (by have := hf.lt; omega)).trans (hcells_at y.sent k hf.lt 1 (by decide))
  have g2 := (h9.rcell (k * 4 + 2) (by have := hf.lt; omega)).trans (hcells_at y.sent k hf.lt 2 (by decide))
  have g3 := (h9.rcell (k * 4 + 3) (by have := hf.lt; omega)).trans (hcells_at y.sent k hf.lt 3 (by decide))
  rw [hf.h_is] at g0 g1 g2 g3
  obtain ⟨n, any, a, m⟩ := h
  simp only [Hd.cells, List.getElem?_cons_succ, List.getElem?_cons_zero, Nat.add_zero] at g0 g1 g2 g3
  have hS1 : w.drew.cell? ⟨e, 0, none⟩ = some (.pointer (some ⟨b, 0, none⟩)) ∧ w.drew.cell? ⟨e2, 1, none⟩ = some (.slice (some ⟨g, 0, none⟩) y.sent.length c) ∧ w.drew.cell? ⟨g, k * 4, none⟩ = some (.int .u16 n) ∧ w.drew.cell? ⟨g, k * 4 + 1, none⟩ = some (.bool any) ∧ w.drew.cell? ⟨g, k * 4 + 2, none⟩ = some (.int .u16 a) ∧ w.drew.cell? ⟨g, k * 4 + 3, none⟩ = some (.int .u32 m) := ⟨e0, e1, g0, g1, g2, g3⟩
  have hct := ctake W B w.drew b (x.sent.length : Int) x.win x.op _ n a m any hf.m0 hf.m1 hf.w0 hf.w1 (Nat.le_trans hf.op (by decide)) ⟨vo, (Holds.sel [_, _, _] hh [1, 2, 0] rfl).drew⟩
  have HCT := Lib.hid hct
  have k0 : (0 : Int) ≤ (k : Int) := Int.natCast_nonneg _
  have k1 : (k : Int) < (y.sent.length : Int) := Int.ofNat_lt.2 hf.lt
  have t0 : decide ((k : Int) < 0) = false := decide_eq_false (Int.not_lt.2 k0)
  have t1 : decide ((y.sent.length : Int) ≤ (k : Int)) = false := decide_eq_false (Int.not_le.2 k1)
  obtain ⟨N, hN⟩ : ∃ N, y.sent.length = N := ⟨_, rfl⟩
  clear hf h9 h6 h11 hh hct g0 g1 g2 g3
  rw [hN] at k1 t1 e1 hS1
  have HN := Lib.hid hN
  clear hN
  go_enter Try.func20, Try.ntmps20
  go_wp2_with fail
  clear e0 e1
  refine Mix.region 16 (fun w' => w'.cell? ⟨e, 0, none⟩ = some (.pointer (some ⟨b, 0, none⟩)) ∧ w'.cell? ⟨e2, 1, none⟩ = some (.slice (some ⟨g, 0, none⟩) N c) ∧ w'.cell? ⟨g, k * 4, none⟩ = some (.int .u16 n) ∧ w'.cell? ⟨g, k * 4 + 1, none⟩ = some (.bool any) ∧ w'.cell? ⟨g, k * 4 + 2, none⟩ = some (.int .u16 a) ∧ w'.cell? ⟨g, k * 4 + 3, none⟩ = some (.int .u32 m)) (by kernel_rfl) ?_
  simp only [List.size_toArray, List.length_cons, List.length_nil]
  refine Mix.at_take (i := 0) (v := ?_) rfl (by kernel_rfl) (by kernel_rfl) (by kernel_rfl) (by kernel_rfl) (by kernel_rfl) (by kernel_rfl) (by kernel_rfl) (fun _ _ _ h => h) (Or.inl ⟨by rfl, ?_⟩) hS1 ?_
  rotate_left
  · intro w hSw
    (try dsimp only at hSw)
    go_simp
    try (with_reducible rfl)
  simp only [Act.put, List.setIfInBounds_toArray, List.set_cons_zero, List.set_cons_succ]
  refine Mix.at_take (i := 1) (v := ?_) rfl (by kernel_rfl) (by kernel_rfl) (by kernel_rfl) (by kernel_rfl) (by kernel_rfl) (by kernel_rfl) (by kernel_rfl) (fun _ _ _ h => h) (Or.inl ⟨by rfl, ?_⟩) hS1 ?_
  rotate_left
  · intro w hSw
    (try dsimp only at hSw)
    go_simp
    try (with_reducible rfl)
  simp only [Act.put, List.setIfInBounds_toArray, List.set_cons_zero, List.set_cons_succ]
  refine Mix.at_take (i := 2) (v := ?_) rfl (by kernel_rfl) (by kernel_rfl) (by kernel_rfl) (by kernel_rfl) (by kernel_rfl) (by kernel_rfl) (by kernel_rfl) (fun _ _ _ h => h) (Or.inl ⟨by rfl, ?_⟩) hS1 ?_
  rotate_left
  · intro w hSw
    (try dsimp only at hSw)
    go_simp
    try (with_reducible rfl)
  simp only [Act.put, List.setIfInBounds_toArray, List.set_cons_zero, List.set_cons_succ]
  refine Mix.at_take (i := 3) (v := ?_) rfl (by kernel_rfl) (by kernel_rfl) (by kernel_rfl) (by kernel_rfl) (by kernel_rfl) (by kernel_rfl) (by kernel_rfl) (fun _ _ _ h => h) (Or.inl ⟨by rfl, ?_⟩) hS1 ?_
  rotate_left
  · intro w hSw
    (try dsimp only at hSw)
    go_simp
    try (with_reducible rfl)
  simp only [Act.put, List.setIfInBounds_toArray, List.set_cons_zero, List.set_cons_succ]
  refine Mix.at_take (i := 4) (v := ?_) rfl (by kernel_rfl) (by kernel_rfl) (by kernel_rfl) (by kernel_rfl) (by kernel_rfl) (by kernel_rfl) (by kernel_rfl) (fun _ _ _ h => h) (Or.inl ⟨by rfl, ?_⟩) hS1 ?_
  rotate_left
  · intro w hSw
    (try dsimp only at hSw)
    go_simp
    try (with_reducible rfl)
  simp only [Act.put, List.setIfInBounds_toArray, List.set_cons_zero, List.set_cons_succ]
  refine Mix.at_take (i := 5) (v := ?_) rfl (by kernel_rfl) (by kernel_rfl) (by kernel_rfl) (by kernel_rfl) (by kernel_rfl) (by kernel_rfl) (by kernel_rfl) (fun _ _ _ h => h) (Or.inl ⟨by rfl, ?_⟩) hS1 ?_
  rotate_left
  · intro w hSw
    (try dsimp only at hSw)
    go_simp
    try (with_reducible rfl)
  simp only [Act.put, List.setIfInBounds_toArray, List.set_cons_zero, List.set_cons_succ]
  refine Mix.at_take (i := 6) (v := ?_) rfl (by kernel_rfl) (by kernel_rfl) (by kernel_rfl) (by kernel_rfl) (by kernel_rfl) (by kernel_rfl) (by kernel_rfl) (fun _ _ _ h => h) (Or.inl ⟨by rfl, ?_⟩) hS1 ?_
  rotate_left
  · intro w hSw
    (try dsimp only at hSw)
    go_simp
    try (with_reducible rfl)
  simp only [Act.put, List.setIfInBounds_toArray, List.set_cons_zero, List.set_cons_succ]
  refine Mix.at_take (i := 7) (v := ?_) rfl (by kernel_rfl) (by kernel_rfl) (by kernel_rfl) (by kernel_rfl) (by kernel_rfl) (by kernel_rfl) (by kernel_rfl) (fun _ _ _ h => h) (Or.inl ⟨by rfl, ?_⟩) hS1 ?_
  rotate_left
  · intro w hSw
    (try dsimp only at hSw)
    go_simp
    try (with_reducible rfl)
  simp only [Act.put, List.setIfInBounds_toArray, List.set_cons_zero, List.set_cons_succ]
  refine Mix.at_take (i := 8) (v := ?_) rfl (by kernel_rfl) (by kernel_rfl) (by kernel_rfl) (by kernel_rfl) (by kernel_rfl) (by kernel_rfl) (by kernel_rfl) (fun _ _ _ h => h) (Or.inl ⟨by rfl, ?_⟩) hS1 ?_
  rotate_left
  · intro w hSw
    (try dsimp only at hSw)
    go_simp
    try (with_reducible rfl)
  simp only [Act.put, List.setIfInBounds_toArray, List.set_cons_zero, List.set_cons_succ]
  refine Mix.at_take (i := 9) (v := ?_) rfl (by kernel_rfl) (by kernel_rfl) (by kernel_rfl) (by kernel_rfl) (by kernel_rfl) (by kernel_rfl) (by kernel_rfl) (fun _ _ _ h => h) (Or.inl ⟨by rfl, ?_⟩) hS1 ?_
  rotate_left
  · intro w hSw
    (try dsimp only at hSw)
    go_simp
    try (with_reducible rfl)
  simp only [Act.put, List.setIfInBounds_toArray, List.set_cons_zero, List.set_cons_succ]
  refine Mix.at_take (i := 10) (v := ?_) rfl (by kernel_rfl) (by kernel_rfl) (by kernel_rfl) (by kernel_rfl) (by kernel_rfl) (by kernel_rfl) (by kernel_rfl) (fun _ _ _ h => h) (Or.inl ⟨by rfl, ?_⟩) hS1 ?_
  rotate_left
  · intro w hSw
    (try dsimp only at hSw)
    go_simp
    try (with_reducible rfl)
  simp only [Act.put, List.setIfInBounds_toArray, List.set_cons_zero, List.set_cons_succ]
  refine Mix.at_step (i := 11) rfl (by kernel_rfl) (by kernel_rfl) (by rfl) ?_
  unfold Oper.wp
  go_simp
  refine HCT.out.mono ?_
  rintro e' w2 (⟨hnew, rfl, vo2', h2⟩ | ⟨hnew, vg, rfl, vo2', h2⟩)
  · have h3 := Holds.sel [_, _, _] h2 [2, 0, 1] rfl
    simp only [pick, List.getElem?_cons_succ, List.getElem?_cons_zero, List.append_eq, List.cons_append, List.nil_append] at h3
    have hS1 := cells_of h3 HF.out.lt HF.out.h_is rfl
    refine ⟨by rw [← HN.out]; exact hS1, ?_⟩
    rw [HN.out] at hS1
    have H3 := Lib.hid h3
    clear h2 h3 HCT
    refine Mix.at_take (i := 12) (v := ?_) rfl (by kernel_rfl) (by kernel_rfl) (by kernel_rfl) (by kernel_rfl) (by kernel_rfl) (by kernel_rfl) (by kernel_rfl) (fun _ _ _ h => h) (Or.inl ⟨by rfl, ?_⟩) hS1 ?_
    rotate_left
    · intro w hSw
      (try dsimp only at hSw)
      go_simp
      try (with_reducible rfl)
    simp only [Act.put, List.setIfInBounds_toArray, List.set_cons_zero, List.set_cons_succ]
    refine Mix.at_take (i := 13) (v := ?_) rfl (by kernel_rfl) (by kernel_rfl) (by kernel_rfl) (by kernel_rfl) (by kernel_rfl) (by kernel_rfl) (by kernel_rfl) (fun _ _ _ h => h) (Or.inl ⟨by rfl, ?_⟩) hS1 ?_
    rotate_left
    · intro w hSw
      (try dsimp only at hSw)
      go_simp
      try (with_reducible rfl)
    simp only [Act.put, List.setIfInBounds_toArray, List.set_cons_zero, List.set_cons_succ]
    refine Mix.at_take (i := 14) (v := ?_) rfl (by kernel_rfl) (by kernel_rfl) (by kernel_rfl) (by kernel_rfl) (by kernel_rfl) (by kernel_rfl) (by kernel_rfl) (fun _ _ _ h => h) (Or.inl ⟨by rfl, ?_⟩) hS1 ?_
    rotate_left
    · intro w hSw
      (try dsimp only at hSw)
      go_simp
      try (with_reducible rfl)
    simp only [Act.put, List.setIfInBounds_toArray, List.set_cons_zero, List.set_cons_succ]
    refine Mix.at_take (i := 15) (v := ?_) rfl (by kernel_rfl) (by kernel_rfl) (by kernel_rfl) (by kernel_rfl) (by kernel_rfl) (by kernel_rfl) (by kernel_rfl) (fun _ _ _ h => h) (Or.inl ⟨by rfl, ?_⟩) hS1 ?_
    rotate_left
    · intro w hSw
      (try dsimp only at hSw)
      go_simp
      try (with_reducible rfl)
    simp only [Act.put, List.setIfInBounds_toArray, List.set_cons_zero, List.set_cons_succ]
    refine Mix.at_tail _ rfl rfl (by kernel_rfl) ?_
    simp only [List.drop_succ_cons, List.drop_zero]
    clear hS1
    go_wp2_with fail
    go_ret
    refine ⟨rfl, [], ?_⟩
    rw [if_neg (by rw [hnew]; decide), if_neg (by rw [hnew]; decide)]
    exact ⟨vo2', _, _, _, vo2, _, _, _, H3.out⟩
  · have h3 := Holds.sel [_, _, _, _, _, _, _, _, _, _, _, _, _] h2 [3, 0, 1, 4, 5, 6, 7, 8, 9, 10, 11, 12, 2] rfl
    simp only [pick, List.getElem?_cons_succ, List.getElem?_cons_zero, List.append_eq, List.cons_append, List.nil_append] at h3
    have hS1 := cells_of h3 HF.out.lt HF.out.h_is rfl
    refine ⟨by rw [← HN.out]; exact hS1, ?_⟩
    rw [HN.out] at hS1
    have hfalse := HF.out.new hnew
    obtain ⟨l, hl⟩ : ∃ l, x.got ⟨n, any, a, m⟩ = l := ⟨_, rfl⟩
    have hle : l.length ≤ 1000 := by rw [← hl]; exact Nat.le_trans (got_le _ _) (Nat.le_trans HF.out.op (by decide))
    have hgot := HF.out.got
    rw [hl] at hgot
    have hnd : l.Nodup := by rw [← hl]; exact HF.out.nodup.filter _
    rw [show List.filter (hasW ⟨any, a, m⟩) x.op = l from hl] at h3
    have h6 := Holds.sel [_, _, _, _, _, _, _, _, _, _, _, _, _] h3 [6, 12] rfl
    have h11 := Holds.sel [_, _, _, _, _, _, _, _, _, _, _, _, _] h3 [11, 0, 1, 2, 3, 4, 5, 6, 7, 8, 9, 10, 12] rfl
    simp only [pick, List.getElem?_cons_succ, List.getElem?_cons_zero, List.append_eq, List.cons_append, List.nil_append] at h6 h11
    obtain ⟨Ag, cg, rfl⟩ := h6.up1.slice
    have p3 := h6.cell 3 rfl
    rw [HN.out] at p3
    have pc := (h11.rcell k (by have := HF.out.lt; omega)).trans (bls_at _ _ _ hfalse)
    have pf := h11.rfrozen k
    have h4 := h11.rset k (.bool true)
    rw [bls_set] at h4
    have h4 := Holds.sel [_, _, _, _, _, _, _, _, _, _, _, _, _] h4 [5, 1, 4, 6, 12, 0, 2, 3, 7, 8, 9, 10, 11] rfl
    have H4 : Hid (TkSt W B _ e b e2 b2 x y _ _ _ _ _ _ _ _ _ _ _ _ l F x.acked) := h4
    have HL := Lib.hid hle
    have HG := Lib.hid hgot
    have HND := Lib.hid hnd
    have HLL := Lib.hid hl
    have HNEW := Lib.hid hnew
    clear h2 h3 HCT h6 h11 h4 hle hgot hnd hl hnew hfalse
    refine Mix.at_take (i := 12) (v := ?_) rfl (by kernel_rfl) (by kernel_rfl) (by kernel_rfl) (by kernel_rfl) (by kernel_rfl) (by kernel_rfl) (by kernel_rfl) (fun _ _ _ h => h) (Or.inl ⟨by rfl, ?_⟩) hS1 ?_
    rotate_left
    · intro w hSw
      (try dsimp only at hSw)
      go_simp
      try (with_reducible rfl)
    simp only [Act.put, List.setIfInBounds_toArray, List.set_cons_zero, List.set_cons_succ]
    refine Mix.at_take (i := 13) (v := ?_) rfl (by kernel_rfl) (by kernel_rfl) (by kernel_rfl) (by kernel_rfl) (by kernel_rfl) (by kernel_rfl) (by kernel_rfl) (fun _ _ _ h => h) (Or.inl ⟨by rfl, ?_⟩) hS1 ?_
    rotate_left
    · intro w hSw
      (try dsimp only at hSw)
      go_simp
      try (with_reducible rfl)
    simp only [Act.put, List.setIfInBounds_toArray, List.set_cons_zero, List.set_cons_succ]
    refine Mix.at_take (i := 14) (v := ?_) rfl (by kernel_rfl) (by kernel_rfl) (by kernel_rfl) (by kernel_rfl) (by kernel_rfl) (by kernel_rfl) (by kernel_rfl) (fun _ _ _ h => h) (Or.inl ⟨by rfl, ?_⟩) hS1 ?_
    rotate_left
    · intro w hSw
      (try dsimp only at hSw)
      go_simp
      try (with_reducible rfl)
    simp only [Act.put, List.setIfInBounds_toArray, List.set_cons_zero, List.set_cons_succ]
    refine Mix.at_take (i := 15) (v := ?_) rfl (by kernel_rfl) (by kernel_rfl) (by kernel_rfl) (by kernel_rfl) (by kernel_rfl) (by kernel_rfl) (by kernel_rfl) (fun _ _ _ h => h) (Or.inl ⟨by rfl, ?_⟩) hS1 ?_
    rotate_left
    · intro w hSw
      (try dsimp only at hSw)
      go_simp
      try (with_reducible rfl)
    simp only [Act.put, List.setIfInBounds_toArray, List.set_cons_zero, List.set_cons_succ]
    refine Mix.at_tail _ rfl rfl (by kernel_rfl) ?_
    simp only [List.drop_succ_cons, List.drop_zero]
    clear hS1
    go_wp2_with fail
    go_loopw [9] (fun i wr => ∃ j : Nat, j ≤ l.length ∧ i = .int .i64 j ∧ Hid (TkSt W B wr e b e2 b2 x y (takeW x.win n).1 (x.op.filter (fun y => !hasW ⟨any, a, m⟩ y)) (y.came.set k true) vo2' vo2 (.slice A7 x.sent.length c7) (.slice A5 x.sent.length c5) (.slice A6 x.sent.length c6) (.slice (some ⟨g, 0, none⟩) y.sent.length c) va2 (.slice (some ⟨gc, 0, none⟩) y.sent.length cc) (.slice Ag l.length cg) l F (ackAll (l.take j) x.acked)))
      (fun i _ => l.length - (intOf i).toNat)
    case atStart => exact ⟨0, Nat.zero_le _, rfl, H4⟩
    case round =>
      obtain ⟨j, hj, rfl, HC⟩ := hrel
      clear H4 p3 pc pf
      by_cases hjn : j < l.length
      · obtain ⟨k0, k1, k2, k3⟩ := k_facts hjn HL.out
        have hz := HG.out l[j] (List.getElem_mem hjn)
        obtain ⟨z, hzl⟩ : ∃ z, l[j] = z := ⟨_, rfl⟩
        rw [hzl] at hz
        obtain ⟨mm, rfl⟩ := Int.eq_ofNat_of_zero_le hz.1
        have hlj : l[j]? = some (mm : Int) := by rw [List.getElem?_eq_getElem hjn, hzl]
        obtain ⟨n0, n1, n2, n3⟩ := n_facts (Int.ofNat_lt.1 hz.2.1) HF.out.small
        have hH := HC.out
        unfold TkSt at hH
        obtain ⟨g5, cap5, he5, _⟩ := hH.row (Nat.lt_of_le_of_lt (Nat.zero_le _) (Int.ofNat_lt.1 hz.2.1))
        simp only [Value.slice.injEq, true_and] at he5
        obtain ⟨rfl, rfl⟩ := he5
        obtain ⟨g6, cap6, he6, _⟩ := hH.up3.row (Nat.lt_of_le_of_lt (Nat.zero_le _) (Int.ofNat_lt.1 hz.2.1))
        simp only [Value.slice.injEq, true_and] at he6
        obtain ⟨rfl, rfl⟩ := he6
        obtain ⟨gl, capl, hel, _⟩ := hH.up4.row (Nat.lt_of_le_of_lt (Nat.zero_le _) hjn)
        simp only [Value.slice.injEq, true_and] at hel
        obtain ⟨rfl, rfl⟩ := hel
        have hzz := hz.2.2
        have hmN : mm < x.sent.length := Int.ofNat_lt.1 hz.2.1
        rw [Int.toNat_natCast] at hzz
        have r1 := hH.up1.cell 1 rfl
        have r2 := hH.up1.cell 2 rfl
        have r3 := hH.up1.cell 3 rfl
        have r4 := (hH.up4.rcell j (by rw [Nat.mul_one]; exact hjn)).trans (u16s_some hlj)
        have r5 := (hH.rcell mm (by rw [Nat.mul_one]; exact hmN)).trans (bls_at _ _ _ (ack_not _ _ _ _ hlj HND.out (fun y hy => (HG.out y hy).1) hzz.1))
        have r6 := hH.rfrozen mm
        have r7 := (hH.up3.rcell mm (by rw [Nat.mul_one]; exact hmN)).trans (bls_at _ _ _ hzz.2)
        have hN2 := hH.rset mm (.bool true)
        rw [bls_set] at hN2
        have hak := ack_next l x.acked j _ hlj
        rw [Int.toNat_natCast] at hak
        rw [← hak] at hN2
        have hNX : Hid (TkSt W B _ e b e2 b2 x y (takeW x.win n).1 (x.op.filter (fun y => !hasW ⟨any, a, m⟩ y)) (y.came.set k true) vo2' vo2 (.slice A7 x.sent.length c7) (.slice (some ⟨g5, 0, none⟩) x.sent.length c5) (.slice (some ⟨g6, 0, none⟩) x.sent.length c6) (.slice (some ⟨g, 0, none⟩) y.sent.length c) va2 (.slice (some ⟨gc, 0, none⟩) y.sent.length cc) (.slice (some ⟨gl, 0, none⟩) l.length cg) l F (ackAll (l.take (j + 1)) x.acked)) := hN2
        have HJ := Lib.hid hjn
        clear hz hzl hlj hzz hH hN2 HC hj hmN hak
        go_wp2_with fail
        refine ⟨⟨j + 1, HJ.out, by go_num, hNX⟩, down_one HJ.out⟩
      · obtain rfl : j = l.length := Nat.le_antisymm hj (Nat.le_of_not_lt hjn)
        have hH := HC.out
        rw [List.take_length] at hH
        unfold TkSt at hH
        have hH := Holds.sel [_, _, _, _, _, _, _, _, _, _, _, _, _] hH [1, 6, 7, 2, 0, 3, 8, 9, 10, 11, 12, 5, 4] rfl
        have HZ : Hid (Two W B wr e b (x.take ⟨n, any, a, m⟩) e2 b2 (y.comes k) ([.rw (.slice Ag l.length cg) 22 1 l.length (u16s l)] ++ F)) := by
          unfold Two End.take End.comes
          rw [HLL.out]
          exact ⟨_, _, _, _, _, _, _, _, hH⟩
        have k1 : ¬ (l.length : Int) < (l.length : Int) := Int.lt_irrefl _
        have k2 : decide ((l.length : Int) < (l.length : Int)) = false := decide_eq_false k1
        clear hH HC hj hjn
        go_wp2_with fail
        go_ret
        refine ⟨rfl, [.rw (.slice Ag l.length cg) 22 1 l.length (u16s l)], ?_⟩
        rw [if_pos HNEW.out, if_pos HNEW.out]
        exact HZ.out

end Go.Proofs.Ytlhlkjllihbokaa.Chan
