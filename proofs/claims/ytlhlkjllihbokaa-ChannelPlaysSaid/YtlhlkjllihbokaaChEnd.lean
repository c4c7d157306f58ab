/- One end of two channels: the next datagram is sent. -/
import Derived.Test.YtlhlkjllihbokaaChTake
import Derived.Test.YtlhlkjllihbokaaApp2
set_option linter.unusedVariables false
set_option linter.unusedSimpArgs false
namespace Go.Proofs.Ytlhlkjllihbokaa.Chan
open Go.Sort Go.RowKit Go.Proofs.Ytlhlkjllihbokaa.Mem Go.Proofs.Ytlhlkjllihbokaa.Open Go.Proofs.Ytlhlkjllihbokaa.Num Go.Proofs.Ytlhlkjllihbokaa.Step Go.Proofs.Ytlhlkjllihbokaa.Ser Go.Proofs.YtlhlkjllihbokaaW.PrintWords

structure Hd where
  n : Int
  any : Bool
  a : Int
  m : Int
def Hd.cells (h : Hd) : List Value := [.int .u16 h.n, .bool h.any, .int .u16 h.a, .int .u32 h.m]
def hcells (l : List Hd) : List Value := l.flatMap Hd.cells
def bls (l : List Bool) : List Value := l.map Value.bool

structure End where
  win : Win
  op : List Int
  sent : List Hd
  acked : List Bool
  came : List Bool

/-- What is sent next. -/
def End.next (x : End) : Hd := ⟨(x.sent.length : Int), x.win.any, x.win.last, x.win.mask⟩
def End.send (x : End) : End := ⟨x.win, nextO x.op (x.sent.length : Int), x.sent ++ [x.next], x.acked ++ [false], x.came ++ [false]⟩

def EndH (W : World) (B : Nat) (w : World) (e b : Nat) (x : End) (F : List Ent) : Prop :=
  ∃ vo vs va vc, Holds W B w (.st e [.pointer (some ⟨b, 0, none⟩), vs, va, vc] 47 :: .st b [.int .u16 (x.sent.length : Int), .bool x.win.any, .int .u16 x.win.last, .int .u32 x.win.mask, vo] 43 ::
    .rw vo 22 1 x.op.length (u16s x.op) :: .rw vs 56 4 x.sent.length (hcells x.sent) :: .rw va 4 1 x.sent.length (bls x.acked) :: .rw vc 4 1 x.sent.length (bls x.came) :: F)

theorem info_hdr : (Try.prog.info? 56).map (fun i => (i.zero, i.size, i.bytes)) = some (some (.agg #[.int .u16 0, .bool false, .int .u16 0, .int .u32 0]), 4, 12) := by kernel_rfl
theorem info_bool : (Try.prog.info? 4).map (fun i => (i.zero, i.size, i.bytes)) = some (some (.bool false), 1, 1) := by kernel_rfl
theorem hd_one (h : Hd) : ∀ u ∈ h.cells, u.oneCell' = true := by
  intro u hu
  simp [Hd.cells] at hu
  rcases hu with rfl | rfl | rfl | rfl <;> rfl
theorem hcells_snoc (l : List Hd) (h : Hd) : hcells (l ++ [h]) = hcells l ++ h.cells := by simp [hcells]
theorem bls_snoc (l : List Bool) (b : Bool) : bls (l ++ [b]) = bls l ++ [.bool b] := by simp [bls]

set_option maxRecDepth 100000 in
set_option maxHeartbeats 2000000 in
theorem esend (W : World) (B : Nat) (w : World) (e b : Nat) (x : End) (F : List Ent) (hl : x.sent.length ≤ 60000) (hop : x.op.length ≤ 64) (hH : EndH W B w e b x F) :
    Calls Try.prog 19 #[.pointer (some ⟨e, 0, none⟩)] w fun e' w' => e' = .returned (.tuple #[]) ∧ EndH W B w' e b x.send F := by
  obtain ⟨i0, hi, hz0, hz1, hz2⟩ := info_parts info_hdr
  obtain ⟨i1, ji, jz0, jz1, jz2⟩ := info_parts info_bool
  obtain ⟨vo, vs, va, vc, hH⟩ := hH
  obtain ⟨A1, c1, rfl⟩ := hH.up3.slice
  obtain ⟨A2, c2, rfl⟩ := hH.up4.slice
  obtain ⟨A3, c3, rfl⟩ := hH.up5.slice
  obtain ⟨win, op, sent, acked, came⟩ := x
  obtain ⟨any, last, mask⟩ := win
  dsimp only at hH hl hop
  have hcs := csend W B w.drew b (sent.length : Int) ⟨any, last, mask⟩ op (.st e [.pointer (some ⟨b, 0, none⟩), .slice A1 sent.length c1, .slice A2 sent.length c2, .slice A3 sent.length c3] 47 :: .rw (.slice A1 sent.length c1) 56 4 sent.length (hcells sent) :: .rw (.slice A2 sent.length c2) 4 1 sent.length (bls acked) :: .rw (.slice A3 sent.length c3) 4 1 sent.length (bls came) :: F) (by omega) (by omega) hop ⟨vo, (Holds.sel [_, _, _] hH [1, 2, 0] rfl).drew⟩
  have HCS := Lib.hid hcs
  have HL := Lib.hid hl
  have hn1 : ((sent.length : Int) + 1) % 65536 = (sent.length : Int) + 1 := by omega
  have HN1 := Lib.hid hn1
  have hS1 : w.drew.cell? ⟨e, 0, none⟩ = some (.pointer (some ⟨b, 0, none⟩)) ∧ w.drew.cell? ⟨e, 1, none⟩ = some (.slice A1 sent.length c1) ∧ w.drew.frozen? ⟨e, 1, none⟩ = false := ⟨hH.cell 0 rfl, hH.cell 1 rfl, hH.frozen 1⟩
  clear hH hcs hl hop hn1
  go_enter Try.func19, Try.ntmps19
  go_wp2_with fail
  refine Mix.region 12 (fun w' => w'.cell? ⟨e, 0, none⟩ = some (.pointer (some ⟨b, 0, none⟩)) ∧ w'.cell? ⟨e, 1, none⟩ = some (.slice A1 sent.length c1) ∧ w'.frozen? ⟨e, 1, none⟩ = false) (by kernel_rfl) ?_
  simp only [List.size_toArray, List.length_cons, List.length_nil]
  refine Mix.at_take (i := 0) (v := ?_) rfl (by kernel_rfl) (by kernel_rfl) (by kernel_rfl) (by kernel_rfl) (by kernel_rfl) (by kernel_rfl) (by kernel_rfl) (fun _ _ _ h => h) (Or.inl ⟨by rfl, ?_⟩) hS1 ?_
  rotate_left
  · intro w hSw
    (try dsimp only at hSw)
    go_simp
    try (with_reducible rfl)
  simp only [Act.put, List.setIfInBounds_toArray, List.set_cons_zero, List.set_cons_succ]
  refine Mix.at_take (i := 1) (v := ?_) rfl (by kernel_rfl) (by kernel_rfl) (by kernel_rfl) (by kernel_rfl) (by kernel_rfl) (by kernel_rfl) (by kernel_rfl) (fun _ _ _ h => h) (Or.inl ⟨by rfl, ?_⟩) hS1 ?_
  rotate_left
  · intro w hSw
    (try dsimp only at hSw)
    go_simp
    try (with_reducible rfl)
  simp only [Act.put, List.setIfInBounds_toArray, List.set_cons_zero, List.set_cons_succ]
  refine Mix.at_take (i := 2) (v := ?_) rfl (by kernel_rfl) (by kernel_rfl) (by kernel_rfl) (by kernel_rfl) (by kernel_rfl) (by kernel_rfl) (by kernel_rfl) (fun _ _ _ h => h) (Or.inl ⟨by rfl, ?_⟩) hS1 ?_
  rotate_left
  · intro w hSw
    (try dsimp only at hSw)
    go_simp
    try (with_reducible rfl)
  simp only [Act.put, List.setIfInBounds_toArray, List.set_cons_zero, List.set_cons_succ]
  refine Mix.at_take (i := 3) (v := ?_) rfl (by kernel_rfl) (by kernel_rfl) (by kernel_rfl) (by kernel_rfl) (by kernel_rfl) (by kernel_rfl) (by kernel_rfl) (fun _ _ _ h => h) (Or.inl ⟨by rfl, ?_⟩) hS1 ?_
  rotate_left
  · intro w hSw
    (try dsimp only at hSw)
    go_simp
    try (with_reducible rfl)
  simp only [Act.put, List.setIfInBounds_toArray, List.set_cons_zero, List.set_cons_succ]
  refine Mix.at_take (i := 4) (v := ?_) rfl (by kernel_rfl) (by kernel_rfl) (by kernel_rfl) (by kernel_rfl) (by kernel_rfl) (by kernel_rfl) (by kernel_rfl) (fun _ _ _ h => h) (Or.inl ⟨by rfl, ?_⟩) hS1 ?_
  rotate_left
  · intro w hSw
    (try dsimp only at hSw)
    go_simp
    try (with_reducible rfl)
  simp only [Act.put, List.setIfInBounds_toArray, List.set_cons_zero, List.set_cons_succ]
  refine Mix.at_take (i := 5) (v := ?_) rfl (by kernel_rfl) (by kernel_rfl) (by kernel_rfl) (by kernel_rfl) (by kernel_rfl) (by kernel_rfl) (by kernel_rfl) (fun _ _ _ h => h) (Or.inl ⟨by rfl, ?_⟩) hS1 ?_
  rotate_left
  · intro w hSw
    (try dsimp only at hSw)
    go_simp
    try (with_reducible rfl)
  simp only [Act.put, List.setIfInBounds_toArray, List.set_cons_zero, List.set_cons_succ]
  refine Mix.at_take (i := 6) (v := ?_) rfl (by kernel_rfl) (by kernel_rfl) (by kernel_rfl) (by kernel_rfl) (by kernel_rfl) (by kernel_rfl) (by kernel_rfl) (fun _ _ _ h => h) (Or.inl ⟨by rfl, ?_⟩) hS1 ?_
  rotate_left
  · intro w hSw
    (try dsimp only at hSw)
    go_simp
    try (with_reducible rfl)
  simp only [Act.put, List.setIfInBounds_toArray, List.set_cons_zero, List.set_cons_succ]
  refine Mix.at_take (i := 7) (v := ?_) rfl (by kernel_rfl) (by kernel_rfl) (by kernel_rfl) (by kernel_rfl) (by kernel_rfl) (by kernel_rfl) (by kernel_rfl) (fun _ _ _ h => h) (Or.inl ⟨by rfl, ?_⟩) hS1 ?_
  rotate_left
  · intro w hSw
    (try dsimp only at hSw)
    go_simp
    try (with_reducible rfl)
  simp only [Act.put, List.setIfInBounds_toArray, List.set_cons_zero, List.set_cons_succ]
  refine Mix.at_take (i := 8) (v := ?_) rfl (by kernel_rfl) (by kernel_rfl) (by kernel_rfl) (by kernel_rfl) (by kernel_rfl) (by kernel_rfl) (by kernel_rfl) (fun _ _ _ h => h) (Or.inl ⟨by rfl, ?_⟩) hS1 ?_
  rotate_left
  · intro w hSw
    (try dsimp only at hSw)
    go_simp
    try (with_reducible rfl)
  simp only [Act.put, List.setIfInBounds_toArray, List.set_cons_zero, List.set_cons_succ]
  refine Mix.at_step (i := 9) rfl (by kernel_rfl) (by kernel_rfl) (by rfl) ?_
  unfold Oper.wp
  go_simp
  refine HCS.out.mono ?_
  rintro e' w2 ⟨rfl, vo2, h2⟩
  rw [HN1.out] at h2
  have h2 := Holds.sel [_, _, _] h2 [2, 0, 1] rfl
  simp only [pick, List.getElem?_cons_succ, List.getElem?_cons_zero, List.append_eq, List.cons_append, List.nil_append] at h2
  have hS1 : w2.cell? ⟨e, 0, none⟩ = some (.pointer (some ⟨b, 0, none⟩)) ∧ w2.cell? ⟨e, 1, none⟩ = some (.slice A1 sent.length c1) ∧ w2.frozen? ⟨e, 1, none⟩ = false := ⟨h2.cell 0 rfl, h2.cell 1 rfl, h2.frozen 1⟩
  refine ⟨hS1, ?_⟩
  have H2 := Lib.hid h2
  clear h2 HCS
  refine Mix.at_step (i := 10) rfl (by kernel_rfl) (by kernel_rfl) (by rfl) ?_
  unfold Oper.wp
  go_simp
  have h3 := H2.out.alloc' (.cells #[.int .u16 sent.length, .bool any, .int .u16 last, .int .u32 mask] 56)
  have hS1 : (w2.alloc (.cells #[.int .u16 sent.length, .bool any, .int .u16 last, .int .u32 mask] 56)).cell? ⟨e, 0, none⟩ = some (.pointer (some ⟨b, 0, none⟩)) ∧ (w2.alloc (.cells #[.int .u16 sent.length, .bool any, .int .u16 last, .int .u32 mask] 56)).cell? ⟨e, 1, none⟩ = some (.slice A1 sent.length c1) ∧ (w2.alloc (.cells #[.int .u16 sent.length, .bool any, .int .u16 last, .int .u32 mask] 56)).frozen? ⟨e, 1, none⟩ = false := ⟨h3.cell 0 rfl, h3.cell 1 rfl, h3.frozen 1⟩
  refine ⟨hS1, ?_⟩
  have H3 := Lib.hid (Holds.sel [_, _, _, _] h3 [3, 0, 1, 2] rfl)
  clear h3 H2
  refine Mix.at_step (i := 11) rfl (by kernel_rfl) (by kernel_rfl) (by rfl) ?_
  refine wp_append_one (.tmp 6) (.tmp 12) 44 rfl 56 i0 _ 4 12 Try.underlying44 hi hz0 hz1 hz2 rfl (by decide) rfl H3.out (Hd.cells ⟨sent.length, any, last, mask⟩) rfl rfl (fun j u hu => cell_one_at rfl (by simpa [Hd.cells] using hu)) (hd_one _) (by have := HL.out; omega) (by decide) ?_
  intro g4 c4 w4 h4
  simp only [pick, List.getElem?_cons_succ, List.getElem?_cons_zero, List.append_eq, List.cons_append, List.nil_append] at h4
  have h4 := h4.up1
  have hS1 : w4.cell? ⟨e, 0, none⟩ = some (.pointer (some ⟨b, 0, none⟩)) ∧ w4.cell? ⟨e, 1, none⟩ = some (.slice A1 sent.length c1) ∧ w4.frozen? ⟨e, 1, none⟩ = false := ⟨h4.cell 0 rfl, h4.cell 1 rfl, h4.frozen 1⟩
  refine ⟨hS1, ?_⟩
  simp only [Act.put, List.setIfInBounds_toArray, List.set_cons_zero, List.set_cons_succ]
  obtain ⟨e0, e1, e2⟩ := hS1
  have h5 := h4.set 1 (.slice (some ⟨g4, 0, none⟩) (sent.length + 1 : Nat) c4)
  simp only [List.set] at h5
  have k2 := h5.cell 2 rfl
  have h5 := Holds.sel [_, _, _, _, _, _] (h5.alloc' (.cells #[.bool false] 4)) [4, 0, 1, 2, 3, 5] rfl
  simp only [pick, List.getElem?_cons_succ, List.getElem?_cons_zero, List.append_eq, List.cons_append, List.nil_append] at h5
  have H5 := Lib.hid h5
  clear h4 h5 H3
  clear hS1
  refine Mix.at_tail _ rfl rfl (by kernel_rfl) ?_
  simp only [List.drop_succ_cons, List.drop_zero]
  go_wp2_with (at_builtin; refine wpList_append_one rfl (.tmp 20) (.tmp 21) _ rfl 4 i1 _ 1 1 Try.underlying45 ji jz0 jz1 jz2 rfl (by decide) rfl H5.out [.bool false] rfl rfl ?p1 ?p2 ?p3 ?p4 ?_)
  case p2 => rfl
  case p3 => have := HL.out; omega
  intro v6 w6 h6
  obtain ⟨A6, c6, rfl⟩ := h6.slice
  have h6 := h6.up1
  have e0 := h6.cell 0 rfl
  have e2 := h6.cell 2 rfl
  have f2 := h6.frozen 2
  have h7 := h6.set 2 (.slice A6 (sent.length + 1 : Nat) c6)
  simp only [List.set] at h7
  have k3 := h7.cell 3 rfl
  have h8 := Holds.sel [_, _, _, _, _, _] (h7.alloc' (.cells #[.bool false] 4)) [5, 0, 2, 3, 4, 1] rfl
  simp only [pick, List.getElem?_cons_succ, List.getElem?_cons_zero, List.append_eq, List.cons_append, List.nil_append] at h8
  have H8 := Lib.hid h8
  clear h6 h7 h8 H5
  go_wp2_with (at_builtin; refine wpList_append_one rfl (.tmp 29) (.tmp 30) _ rfl 4 i1 _ 1 1 Try.underlying45 ji jz0 jz1 jz2 rfl (by decide) rfl H8.out [.bool false] rfl rfl ?q1 ?q2 ?q3 ?q4 ?_)
  case q1 => intro j u hu; exact cell_one_at (by simp) (by simpa using hu)
  case q2 => intro u hu; simp at hu; rw [hu]; rfl
  case q4 => decide
  case q3 => have := HL.out; omega
  intro v9 w9 h9
  obtain ⟨A9, c9, rfl⟩ := h9.slice
  have h9 := h9.up1
  have e0 := h9.cell 0 rfl
  have e3 := h9.cell 3 rfl
  have f3 := h9.frozen 3
  have hA := h9.set 3 (.slice A9 (sent.length + 1 : Nat) c9)
  simp only [List.set] at hA
  have HA := Lib.hid hA
  clear h9 hA H8
  go_wp2_with fail
  refine bodyPost_end (by kernel_rfl) rfl ⟨rfl, ?_⟩
  have hz := Holds.sel [_, _, _, _, _, _] HA.out [0, 3, 4, 2, 5, 1] rfl
  simp only [pick, List.getElem?_cons_succ, List.getElem?_cons_zero, List.append_eq, List.cons_append, List.nil_append] at hz
  unfold EndH
  simp only [End.send, End.next, List.length_append, List.length_singleton, hcells_snoc, bls_snoc, Int.natCast_add, Int.cast_ofNat_Int]
  exact ⟨vo2, _, _, _, hz⟩

end Go.Proofs.Ytlhlkjllihbokaa.Chan
