/- One end of two channels: a datagram of the other one comes. -/
import Derived.Test.YtlhlkjllihbokaaChEnd
set_option linter.unusedVariables false
set_option linter.unusedSimpArgs false
namespace Go.Proofs.Ytlhlkjllihbokaa.Chan
open Go.Sort Go.RowKit Go.Proofs.Ytlhlkjllihbokaa.Mem Go.Proofs.Ytlhlkjllihbokaa.Open Go.Proofs.Ytlhlkjllihbokaa.Num Go.Proofs.Ytlhlkjllihbokaa.Step Go.Proofs.Ytlhlkjllihbokaa.Ser Go.Proofs.YtlhlkjllihbokaaW.PrintWords

/-- Two ends in memory. -/
def Two (W : World) (B : Nat) (w : World) (e b : Nat) (x : End) (e2 b2 : Nat) (y : End) (F : List Ent) : Prop :=
  ∃ vo vs va vc vo2 vs2 va2 vc2, Holds W B w (.st e [.pointer (some ⟨b, 0, none⟩), vs, va, vc] 47 :: .st b [.int .u16 (x.sent.length : Int), .bool x.win.any, .int .u16 x.win.last, .int .u32 x.win.mask, vo] 43 ::
    .rw vo 22 1 x.op.length (u16s x.op) :: .rw vs 56 4 x.sent.length (hcells x.sent) :: .rw va 4 1 x.sent.length (bls x.acked) :: .rw vc 4 1 x.sent.length (bls x.came) ::
    .st e2 [.pointer (some ⟨b2, 0, none⟩), vs2, va2, vc2] 47 :: .st b2 [.int .u16 (y.sent.length : Int), .bool y.win.any, .int .u16 y.win.last, .int .u32 y.win.mask, vo2] 43 ::
    .rw vo2 22 1 y.op.length (u16s y.op) :: .rw vs2 56 4 y.sent.length (hcells y.sent) :: .rw va2 4 1 y.sent.length (bls y.acked) :: .rw vc2 4 1 y.sent.length (bls y.came) :: F)

theorem Two.swap {W : World} {B : Nat} {w : World} {e b e2 b2 : Nat} {x y : End} {F : List Ent} (h : Two W B w e b x e2 b2 y F) : Two W B w e2 b2 y e b x F := by
  obtain ⟨vo, vs, va, vc, vo2, vs2, va2, vc2, h⟩ := h
  exact ⟨vo2, vs2, va2, vc2, vo, vs, va, vc, Holds.sel [_, _, _, _, _, _, _, _, _, _, _, _] h [6, 7, 8, 9, 10, 11, 0, 1, 2, 3, 4, 5] rfl⟩

theorem tsend (W : World) (B : Nat) (w : World) (e b e2 b2 : Nat) (x y : End) (F : List Ent) (hl : x.sent.length ≤ 60000) (hop : x.op.length ≤ 64) (h : Two W B w e b x e2 b2 y F) :
    Calls Try.prog 19 #[.pointer (some ⟨e, 0, none⟩)] w fun e' w' => e' = .returned (.tuple #[]) ∧ Two W B w' e b x.send e2 b2 y F := by
  obtain ⟨vo, vs, va, vc, vo2, vs2, va2, vc2, h⟩ := h
  refine (esend W B w e b x _ hl hop ⟨vo, vs, va, vc, h⟩).mono ?_
  rintro e' w' ⟨rfl, vo, vs, va, vc, h⟩
  exact ⟨rfl, vo, vs, va, vc, vo2, vs2, va2, vc2, h⟩

def ackAll (l : List Int) (A : List Bool) : List Bool := l.foldl (fun A y => A.set y.toNat true) A
def Hd.win (h : Hd) : Win := ⟨h.any, h.a, h.m⟩
/-- What is acknowledged by the header h. -/
def End.got (x : End) (h : Hd) : List Int := x.op.filter (hasW h.win)
def End.take (x : End) (h : Hd) : End := ⟨(takeW x.win h.n).1, x.op.filter (fun y => !hasW h.win y), x.sent, ackAll (x.got h) x.acked, x.came⟩
def End.comes (y : End) (k : Nat) : End := ⟨y.win, y.op, y.sent, y.acked, y.came.set k true⟩

theorem hcells_len (l : List Hd) : (hcells l).length = l.length * 4 := by
  induction l with
  | nil => rfl
  | cons h l ih => simp only [hcells, List.flatMap_cons, List.length_append] at ih ⊢; rw [ih]; simp [Hd.cells]; omega
theorem hcells_at : ∀ (l : List Hd) (k : Nat) (h : k < l.length) (i : Nat), i < 4 → (hcells l)[k * 4 + i]? = l[k].cells[i]? := by
  intro l
  induction l with
  | nil => intro k h; simp at h
  | cons x l ih =>
    intro k h i hi
    cases k with
    | zero =>
      simp only [hcells, List.flatMap_cons, Nat.zero_mul, Nat.zero_add, List.getElem_cons_zero]
      rw [List.getElem?_append_left (by simpa [Hd.cells] using hi)]
    | succ k =>
      simp only [hcells, List.flatMap_cons, List.getElem_cons_succ]
      rw [List.getElem?_append_right (by simp [Hd.cells]; omega)]
      have := ih k (by simpa using h) i hi
      rw [show (k + 1) * 4 + i - x.cells.length = k * 4 + i by simp [Hd.cells]; omega]
      exact this
theorem bls_at (l : List Bool) (k : Nat) (b : Bool) (h : l[k]? = some b) : (bls l)[k]? = some (.bool b) := by rw [bls, List.getElem?_map, h]; rfl
theorem bls_set (l : List Bool) (k : Nat) (b : Bool) : (bls l).set k (.bool b) = bls (l.set k b) := by simp [bls, List.map_set]
theorem got_le (x : End) (h : Hd) : (x.got h).length ≤ x.op.length := List.length_filter_le _ _
theorem ack_next (l : List Int) (A : List Bool) (i : Nat) (y : Int) (h : l[i]? = some y) : ackAll (l.take (i + 1)) A = (ackAll (l.take i) A).set y.toNat true := by
  unfold ackAll
  rw [List.take_add_one, h, List.foldl_append]
  rfl
theorem ack_len (l : List Int) (A : List Bool) : (ackAll l A).length = A.length := by
  unfold ackAll
  induction l generalizing A with
  | nil => rfl
  | cons y l ih => rw [List.foldl_cons, ih, List.length_set]
theorem ack_other (l : List Int) (A : List Bool) (m : Nat) (h : (m : Int) ∉ l) (h0 : ∀ y ∈ l, 0 ≤ y) : (ackAll l A)[m]? = A[m]? := by
  unfold ackAll
  induction l generalizing A with
  | nil => rfl
  | cons y l ih =>
    rw [List.foldl_cons, ih _ (fun h1 => h (List.mem_cons_of_mem _ h1)) (fun y hy => h0 y (List.mem_cons_of_mem _ hy))]
    have : y.toNat ≠ m := by
      intro e
      refine h ?_
      have := h0 y (by simp)
      rw [← e, Int.toNat_of_nonneg this]
      simp
    rw [List.getElem?_set_ne this]
theorem ack_not (l : List Int) (A : List Bool) (i : Nat) (m : Nat) (h : l[i]? = some (m : Int)) (hn : l.Nodup) (h0 : ∀ y ∈ l, 0 ≤ y) (hA : A[m]? = some false) : (ackAll (l.take i) A)[m]? = some false := by
  rw [ack_other _ _ _ ?_ (fun y hy => h0 y (List.mem_of_mem_take hy)), hA]
  intro hm
  obtain ⟨j, hj, e⟩ := List.mem_iff_getElem.1 hm
  rw [List.length_take] at hj
  rw [List.getElem_take] at e
  obtain ⟨hi, e2⟩ := List.getElem?_eq_some_iff.1 h
  have := (List.getElem_inj (h₀ := by omega) (h₁ := hi) hn).1 (e.trans e2.symm)
  omega

/-- What must hold that a datagram's coming is answered true. -/
structure Fine (x y : End) (k : Nat) (h : Hd) : Prop where
  lt : k < y.sent.length
  h_is : y.sent[k] = h
  m0 : 0 ≤ h.m
  m1 : h.m < 4294967296
  w0 : 0 ≤ x.win.mask
  w1 : x.win.mask < 4294967296
  op : x.op.length ≤ 64
  small : x.sent.length ≤ 60000
  small2 : y.sent.length ≤ 60000
  new : (takeW x.win h.n).2 = true → y.came[k]? = some false
  nodup : x.op.Nodup
  got : ∀ z ∈ x.got h, 0 ≤ z ∧ z < x.sent.length ∧ x.acked[z.toNat]? = some false ∧ x.came[z.toNat]? = some true

/-- What a datagram's coming makes of both. -/
def Took (W : World) (B : Nat) (e b e2 b2 : Nat) (x y : End) (k : Nat) (h : Hd) (F : List Ent) (e' : Ending) (w' : World) : Prop :=
  e' = .returned (.bool true) ∧ ∃ F', Two W B w' e b (if (takeW x.win h.n).2 = true then x.take h else x) e2 b2 (if (takeW x.win h.n).2 = true then y.comes k else y) (F' ++ F)

theorem two_out (W : World) (B : Nat) (w : World) (e b e2 b2 : Nat) (x y : End) (k : Int) (F : List Ent) (hk : k < 0 ∨ (y.sent.length : Int) ≤ k) (h : Two W B w e b x e2 b2 y F) :
    Calls Try.prog 20 #[.pointer (some ⟨e, 0, none⟩), .pointer (some ⟨e2, 0, none⟩), .int .i64 k] w fun e' w' => e' = .returned (.bool true) ∧ Two W B w' e b x e2 b2 y F := by
  have H := Lib.hid h
  obtain ⟨vo, vs, va, vc, vo2, vs2, va2, vc2, h⟩ := h
  have h6 := Holds.sel [_, _, _, _, _, _, _, _, _, _, _, _] h [6, 9] rfl
  simp only [pick, List.getElem?_cons_succ, List.getElem?_cons_zero, List.append_eq, List.cons_append, List.nil_append] at h6
  obtain ⟨A, c, rfl⟩ := h6.up1.slice
  have q1 := h6.cell 1 rfl
  clear h h6
  have hk1 : ∀ h : k < 0, decide (k < 0) = true := fun h => decide_eq_true h
  by_cases h0 : k < 0
  · have t0 := decide_eq_true h0
    clear hk hk1
    go_enter Try.func20, Try.ntmps20
    go_wp2_with fail
    go_ret
    exact ⟨rfl, H.out⟩
  · have t0 := decide_eq_false h0
    have h1 : (y.sent.length : Int) ≤ k := hk.resolve_left h0
    have t1 := decide_eq_true h1
    clear hk hk1
    go_enter Try.func20, Try.ntmps20
    go_wp2_with fail
    go_ret
    exact ⟨rfl, H.out⟩

end Go.Proofs.Ytlhlkjllihbokaa.Chan
