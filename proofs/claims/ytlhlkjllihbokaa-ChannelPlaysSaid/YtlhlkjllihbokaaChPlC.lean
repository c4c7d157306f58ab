/- The two channels side by side: what each step does to both. -/
import Derived.Test.YtlhlkjllihbokaaChPlS
set_option linter.unusedVariables false
set_option linter.unusedSimpArgs false
namespace Go.Proofs.Ytlhlkjllihbokaa.R14
open Go.Sort Go.RowKit Go.Deep Go.WideShapes Go.ChangeShapes Go.Proofs.Ytlhlkjllihbokaa.Mem Go.Proofs.Ytlhlkjllihbokaa.Open Go.Proofs.Ytlhlkjllihbokaa.Num Go.Proofs.Ytlhlkjllihbokaa.Step Go.Proofs.Ytlhlkjllihbokaa.Ser Go.Proofs.Ytlhlkjllihbokaa.Chan Go.Proofs.YtlhlkjllihbokaaW.PrintWords

/-- The program's has sent; the reference's hasn't. -/
def PSend (w0 : World) (b b2 k : Nat) (N : Int) (x : Win) (wr : World) : Prop :=
  ∃ (op : List Int) (L : List Bool) (v v2 : Value) (F : List Ent), op = opn 0 L ∧ op.length ≤ 64 ∧ L.length ≤ k ∧ WinOk x ∧ N = (L.length : Int) ∧
    Holds w0 w0.heap.size wr (.st b [.int .u16 ((L.length : Int) + 1), .bool x.any, .int .u16 x.last, .int .u32 x.mask, v] 43 :: .rw v 22 1 (nextO op (L.length : Int)).length (u16s (nextO op (L.length : Int))) ::
      .st b2 [.int .i64 (L.length : Int), .bool x.any, .int .u16 x.last, .int .u32 x.mask, v2] 82 :: .rw v2 4 1 L.length (bls L) :: F)

theorem ps_send1 {w0 w : World} {b b2 k : Nat} (h : PS w0 b b2 k w) (hk : k ≤ 800) :
    Calls Try.prog 32 #[.pointer (some ⟨b, 0, none⟩)] w fun e' w' => ∃ N x, e' = .returned (.agg #[.int .u16 N, .bool x.any, .int .u16 x.last, .int .u32 x.mask]) ∧ PSend w0 b b2 k N x w' := by
  obtain ⟨x, op, L, v, v2, F, h1, h2, h3, h4, h⟩ := h
  refine (csend _ _ w b (L.length : Int) x op _ (by omega) (by omega) h2 ⟨v, h⟩).mono ?_
  rintro e' w' ⟨rfl, v', h⟩
  refine ⟨_, x, rfl, op, L, v', v2, F, h1, h2, h3, h4, rfl, ?_⟩
  rw [show ((L.length : Int) + 1) % 65536 = (L.length : Int) + 1 by omega] at h
  exact h

theorem ps_send2 {w0 w : World} {b b2 k : Nat} {N : Int} {x : Win} (h : PSend w0 b b2 k N x w) (hk : k ≤ 800) :
    Calls Try.prog 33 #[.pointer (some ⟨b2, 0, none⟩)] w fun e' w' => e' = .returned (.agg #[.int .u16 N, .bool x.any, .int .u16 x.last, .int .u32 x.mask]) ∧ PS w0 b b2 (k + 1) w' := by
  obtain ⟨op, L, v, v2, F, h1, h2, h3, h4, rfl, h⟩ := h
  have h := Holds.sel [_, _, _, _] h [2, 3, 0, 1] rfl
  refine (rcsend _ _ w b2 x L _ (by omega) ⟨v2, h⟩).mono ?_
  rintro e' w' ⟨rfl, v', h⟩
  have h := Holds.sel [_, _, _, _] h [2, 3, 0, 1] rfl
  refine ⟨rfl, x, nextO op (L.length : Int), kept (L ++ [true]), v, v', F, send_open h1 h2, ?_, ?_, h4, ?_⟩
  · unfold nextO; split <;> simp at * <;> omega
  · rw [kept_len]; simp; omega
  · simp only [pick, List.getElem?_cons_succ, List.getElem?_cons_zero, List.append_eq, List.cons_append, List.nil_append] at h
    rw [kept_len, List.length_append, List.length_singleton] at *
    exact h

/-- The program's has taken the header h; the reference's hasn't. -/
def PT (w0 : World) (b b2 k : Nat) (hd : Hd) (vg : Value) (ec : Int) (l : List Int) (wr : World) : Prop :=
  ∃ (x : Win) (op : List Int) (L : List Bool) (v v2 : Value) (F : List Ent), op = opn 0 L ∧ op.length ≤ 64 ∧ L.length ≤ k ∧ WinOk x ∧
    (((takeW x hd.n).2 = false ∧ vg = .slice none 0 0 ∧ ec = 8 ∧ l = [] ∧
      Holds w0 w0.heap.size wr (.st b [.int .u16 (L.length : Int), .bool x.any, .int .u16 x.last, .int .u32 x.mask, v] 43 :: .rw v 22 1 op.length (u16s op) ::
        .st b2 [.int .i64 (L.length : Int), .bool x.any, .int .u16 x.last, .int .u32 x.mask, v2] 82 :: .rw v2 4 1 L.length (bls L) :: F)) ∨
     ((takeW x hd.n).2 = true ∧ ec = 0 ∧ l = op.filter (hasW ⟨hd.any, hd.a, hd.m⟩) ∧
      Holds w0 w0.heap.size wr (.st b [.int .u16 (L.length : Int), .bool (takeW x hd.n).1.any, .int .u16 (takeW x hd.n).1.last, .int .u32 (takeW x hd.n).1.mask, v] 43 ::
        .rw v 22 1 (op.filter (fun y => !hasW ⟨hd.any, hd.a, hd.m⟩ y)).length (u16s (op.filter (fun y => !hasW ⟨hd.any, hd.a, hd.m⟩ y))) :: .rw vg 22 1 l.length (u16s l) ::
        .st b2 [.int .i64 (L.length : Int), .bool x.any, .int .u16 x.last, .int .u32 x.mask, v2] 82 :: .rw v2 4 1 L.length (bls L) :: F)))

theorem ps_take1 {w0 w : World} {b b2 k : Nat} (hd : Hd) (hw : HdWf hd) (h : PS w0 b b2 k w) :
    Calls Try.prog 34 #[.pointer (some ⟨b, 0, none⟩), .agg #[.int .u16 hd.n, .bool hd.any, .int .u16 hd.a, .int .u32 hd.m]] w fun e' w' => ∃ vg ec l, e' = .returned (.tuple #[vg, .int .i64 ec]) ∧ PT w0 b b2 k hd vg ec l w' := by
  obtain ⟨x, op, L, v, v2, F, h1, h2, h3, h4, h⟩ := h
  refine (ctake _ _ w b (L.length : Int) x op _ hd.n hd.a hd.m hd.any hw.2.2.2.2.1 hw.2.2.2.2.2 h4.2.2.1 h4.2.2.2 (by omega) ⟨v, h⟩).mono ?_
  rintro e' w' (⟨hn, rfl, v', h⟩ | ⟨hn, vg, rfl, v', h⟩)
  · exact ⟨_, 8, [], rfl, x, op, L, v', v2, F, h1, h2, h3, h4, .inl ⟨hn, rfl, rfl, rfl, h⟩⟩
  · exact ⟨vg, 0, _, rfl, x, op, L, v', v2, F, h1, h2, h3, h4, .inr ⟨hn, rfl, rfl, h⟩⟩

theorem ps_take2 {w0 w : World} {b b2 k : Nat} {hd : Hd} {vg : Value} {ec : Int} {l : List Int} (hw : HdWf hd) (hk : k ≤ 800) (h : PT w0 b b2 k hd vg ec l w) :
    Calls Try.prog 35 #[.pointer (some ⟨b2, 0, none⟩), .agg #[.int .u16 hd.n, .bool hd.any, .int .u16 hd.a, .int .u32 hd.m]] w fun e' w' => ∃ vg2, e' = .returned (.tuple #[vg2, .int .i64 ec]) ∧
      Rd w' vg l.length (u16s l) ∧ Rd w' vg2 l.length (u16s l) ∧ l.length ≤ 1000 ∧ PS w0 b b2 (k + 1) w' := by
  obtain ⟨x, op, L, v, v2, F, h1, h2, h3, h4, h⟩ := h
  rcases h with ⟨hn, rfl, rfl, rfl, h⟩ | ⟨hn, rfl, rfl, h⟩
  · have h := Holds.sel [_, _, _, _] h [2, 3, 0, 1] rfl
    refine (rctake _ _ w b2 x L _ hd.n hd.a hd.m hd.any (by omega) hw.2.2.1 hw.2.2.2.1 hw.2.2.2.2.1 hw.2.2.2.2.2 h4.1 h4.2.1 hw.1 hw.2.1 h4.2.2.1 h4.2.2.2 ⟨v2, h⟩).mono ?_
    rintro e' w' (⟨_, rfl, v', h⟩ | ⟨hn2, _⟩)
    · have h := Holds.sel [_, _, _, _] h [2, 3, 0, 1] rfl
      exact ⟨_, rfl, .inl ⟨rfl, rfl, rfl⟩, .inl ⟨rfl, rfl, rfl⟩, by simp, x, op, L, v, v', F, h1, h2, by omega, h4, h⟩
    · rw [hn] at hn2; cases hn2
  · have h := Holds.sel [_, _, _, _, _] h [3, 4, 0, 1, 2] rfl
    refine (rctake _ _ w b2 x L _ hd.n hd.a hd.m hd.any (by omega) hw.2.2.1 hw.2.2.2.1 hw.2.2.2.2.1 hw.2.2.2.2.2 h4.1 h4.2.1 hw.1 hw.2.1 h4.2.2.1 h4.2.2.2 ⟨v2, h⟩).mono ?_
    rintro e' w' (⟨hn2, _⟩ | ⟨_, vg2, rfl, v', h⟩)
    · rw [hn] at hn2; cases hn2
    · have hr1 := Holds.sel [_, _, _, _, _, _] h [5] rfl
      have hr2 := Holds.sel [_, _, _, _, _, _] h [2] rfl
      have h := Holds.sel [_, _, _, _, _, _] h [3, 4, 0, 1] rfl
      simp only [pick, List.getElem?_cons_succ, List.getElem?_cons_zero, List.append_eq, List.cons_append, List.nil_append] at hr1 hr2
      rw [← h1] at hr2
      refine ⟨vg2, rfl, hr1.rd, hr2.rd, Nat.le_trans (List.length_filter_le _ _) (by omega), (takeW x hd.n).1, op.filter (fun y => !hasW ⟨hd.any, hd.a, hd.m⟩ y), clr (hasW ⟨hd.any, hd.a, hd.m⟩) 0 L, v, v', F, ?_, Nat.le_trans (List.length_filter_le _ _) h2, by rw [clr_len]; omega, win_ok h4 _ hw.1 hw.2.1, ?_⟩
      · rw [opn_clr, h1]
      · simp only [pick, List.getElem?_cons_succ, List.getElem?_cons_zero, List.append_eq, List.cons_append, List.nil_append] at h
        rw [clr_len] at *
        exact h

def rows (l : List Int) (R : List Value) : List Ent := R.map fun v => .rw v 22 1 l.length (u16s l)
/-- Beside both, rows of what is open. -/
def PSO (w0 : World) (b b2 k : Nat) (x : Win) (l : List Int) (R : List Value) (wr : World) : Prop :=
  ∃ (L : List Bool) (v v2 : Value) (F : List Ent), l = opn 0 L ∧ l.length ≤ 64 ∧ L.length ≤ k ∧ WinOk x ∧
    Holds w0 w0.heap.size wr (.st b [.int .u16 (L.length : Int), .bool x.any, .int .u16 x.last, .int .u32 x.mask, v] 43 :: .rw v 22 1 l.length (u16s l) ::
      .st b2 [.int .i64 (L.length : Int), .bool x.any, .int .u16 x.last, .int .u32 x.mask, v2] 82 :: .rw v2 4 1 L.length (bls L) :: (rows l R ++ F))
theorem PS.open {w0 wr : World} {b b2 k : Nat} (h : PS w0 b b2 k wr) : ∃ x l, PSO w0 b b2 k x l [] wr := by
  obtain ⟨x, op, L, v, v2, F, h1, h2, h3, h4, h⟩ := h
  exact ⟨x, op, L, v, v2, F, h1, h2, h3, h4, h⟩
theorem PSO.shut {w0 wr : World} {b b2 k : Nat} {x : Win} {l : List Int} {R : List Value} (h : PSO w0 b b2 k x l R wr) : PS w0 b b2 k wr := by
  obtain ⟨L, v, v2, F, h1, h2, h3, h4, h⟩ := h
  exact ⟨x, l, L, v, v2, _, h1, h2, h3, h4, h⟩
theorem PSO.belowed {w0 w w' : World} {b b2 k : Nat} {x : Win} {l : List Int} {R : List Value} (h : PSO w0 b b2 k x l R w) (hb : Below w.heap.size w w') : PSO w0 b b2 k x l R w' := by
  obtain ⟨L, v, v2, F, h1, h2, h3, h4, h⟩ := h
  exact ⟨L, v, v2, F, h1, h2, h3, h4, hbelowed' h hb⟩
theorem PSO.cells {w0 w : World} {b b2 k : Nat} {x : Win} {l : List Int} {R : List Value} (h : PSO w0 b b2 k x l R w) : w.cell? ⟨b2, 1, none⟩ = some (.bool x.any) ∧ w.cell? ⟨b2, 2, none⟩ = some (.int .u16 x.last) ∧ w.cell? ⟨b2, 3, none⟩ = some (.int .u32 x.mask) := by
  obtain ⟨L, v, v2, F, h1, h2, h3, h4, h⟩ := h
  exact ⟨h.up2.cell 1 rfl, h.up2.cell 2 rfl, h.up2.cell 3 rfl⟩
theorem PSO.rd {w0 w : World} {b b2 k : Nat} {x : Win} {l : List Int} {R : List Value} (h : PSO w0 b b2 k x l R w) (v : Value) (hv : v ∈ R) : Rd w v l.length (u16s l) ∧ l.length ≤ 1000 := by
  obtain ⟨L, _, v2, F, h1, h2, h3, h4, h⟩ := h
  have hm : Ent.rw v 22 1 l.length (u16s l) ∈ rows l R ++ F := List.mem_append.2 (.inl (List.mem_map.2 ⟨v, hv, rfl⟩))
  exact ⟨Rd.of_own (h.each _ (List.mem_cons_of_mem _ (List.mem_cons_of_mem _ (List.mem_cons_of_mem _ (List.mem_cons_of_mem _ hm))))), by omega⟩
theorem po_open1 {w0 w : World} {b b2 k : Nat} {x : Win} {l : List Int} {R : List Value} (h : PSO w0 b b2 k x l R w) :
    Calls Try.prog 21 #[.pointer (some ⟨b, 0, none⟩)] w fun e' w' => ∃ v', e' = .returned v' ∧ PSO w0 b b2 k x l (v' :: R) w' := by
  obtain ⟨L, v, v2, F, h1, h2, h3, h4, h⟩ := h
  refine (copen _ _ w b _ x l _ h2 ⟨v, h⟩).mono ?_
  rintro e' w' ⟨v', rfl, v3, h⟩
  exact ⟨v', rfl, L, v3, v2, F, h1, h2, h3, h4, Holds.sel [_, _, _, _, _] h [0, 1, 3, 4, 2] rfl⟩
theorem po_open2 {w0 w : World} {b b2 k : Nat} {x : Win} {l : List Int} {R : List Value} (h : PSO w0 b b2 k x l R w) (hk : k ≤ 800) :
    Calls Try.prog 37 #[.pointer (some ⟨b2, 0, none⟩)] w fun e' w' => ∃ v', e' = .returned v' ∧ PSO w0 b b2 k x l (v' :: R) w' := by
  obtain ⟨L, v, v2, F, h1, h2, h3, h4, h⟩ := h
  have h := Holds.sel [_, _, _, _] h [2, 3, 0, 1] rfl
  refine (ropen _ _ w b2 x L _ (by omega) ⟨v2, h⟩).mono ?_
  rintro e' w' ⟨v', rfl, v3, h⟩
  rw [← h1] at h
  exact ⟨v', rfl, L, v, v3, F, h1, h2, h3, h4, Holds.sel [_, _, _, _, _] h [3, 4, 0, 1, 2] rfl⟩
theorem po_window {w0 w : World} {b b2 k : Nat} {x : Win} {l : List Int} {R : List Value} (h : PSO w0 b b2 k x l R w) :
    Calls Try.prog 38 #[.pointer (some ⟨b, 0, none⟩)] w fun e' w' => e' = .returned (.agg #[.bool x.any, .int .u16 x.last, .int .u32 x.mask]) ∧ PSO w0 b b2 k x l R w' := by
  have h' := h
  obtain ⟨L, v, v2, F, h1, h2, h3, h4, h⟩ := h
  refine (cwindow _ _ w b _ x v _ h).mono ?_
  rintro e' w' ⟨rfl, hb⟩
  exact ⟨rfl, h'.belowed hb⟩

end Go.Proofs.Ytlhlkjllihbokaa.R14
