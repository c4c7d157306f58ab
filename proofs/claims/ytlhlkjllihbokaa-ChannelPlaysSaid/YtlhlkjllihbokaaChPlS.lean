/- The two channels side by side; scripts as arguments. -/
import Derived.Test.YtlhlkjllihbokaaChR14S
import Derived.Test.YtlhlkjllihbokaaChOpen
import Derived.Test.YtlhlkjllihbokaaOpen
import Derived.Deep.CutBlock
set_option linter.unusedVariables false
set_option linter.unusedSimpArgs false
namespace Go.Proofs.Ytlhlkjllihbokaa.R14
open Go.Sort Go.RowKit Go.Deep Go.WideShapes Go.ChangeShapes Go.Proofs.Ytlhlkjllihbokaa.Mem Go.Proofs.Ytlhlkjllihbokaa.Open Go.Proofs.Ytlhlkjllihbokaa.Num Go.Proofs.Ytlhlkjllihbokaa.Step Go.Proofs.Ytlhlkjllihbokaa.Ser Go.Proofs.Ytlhlkjllihbokaa.Chan Go.Proofs.YtlhlkjllihbokaaW.PrintWords

structure COp where
  kind : Int
  h : Hd
def COp.cells (o : COp) : List Value := [.int .i64 o.kind, .int .u16 o.h.n, .bool o.h.any, .int .u16 o.h.a, .int .u32 o.h.m]
def HdWf (h : Hd) : Prop := 0 ≤ h.n ∧ h.n ≤ 65535 ∧ 0 ≤ h.a ∧ h.a ≤ 65535 ∧ 0 ≤ h.m ∧ h.m < 4294967296
theorem cop_size : Try.prog.cellsOf 84 = 5 := by kernel_rfl
theorem cop_flat : flat Try.prog 4 84 = some [.int .i64, .int .u16, .bool, .int .u16, .int .u32] := by kernel_rfl
theorem cop_of {H : Type} {enc : TypeId × Value → H} {W : World} {base : Nat} {sp : Nat → Bool} {held : Bool} {fuel : Nat} {cs : List Value} {x : DataW H × List MemPlace}
    (hx : DataW.trod enc Try.prog W base sp held fuel 84 cs = some x) : ∃ o : COp, cs = o.cells ∧ HdWf o.h := by
  have h0 := flat_ok 4 _ _ _ _ _ cop_flat hx
  obtain ⟨n1, c1, rfl, w1, h1⟩ := h0.int_inv
  obtain ⟨n2, c2, rfl, w2, h2⟩ := h1.int_inv
  obtain ⟨b3, c3, rfl, h3⟩ := h2.bool_inv
  obtain ⟨n4, c4, rfl, w4, h4⟩ := h3.int_inv
  obtain ⟨n5, c5, rfl, w5, h5⟩ := h4.int_inv
  obtain rfl := h5.nil_inv
  simp [Lit.wf, IntKind.min, IntKind.max, IntKind.signed, IntKind.bits] at w2 w4 w5
  exact ⟨⟨n1, ⟨n2, b3, n4, n5⟩⟩, rfl, by unfold HdWf; simp only; omega⟩

set_option maxRecDepth 100000 in
theorem open_cops {H : Type} {enc : TypeId × Value → H} {W : World} {base base' : Nat} {sp : Nat → Bool} {held : Bool} {v : Value} {d : DataW H} {ps : List MemPlace} {r : Reach}
    (hok : Value.okWide Try.prog W r base' 78 v) (h : DataW.Trod enc Try.prog W base sp held 78 v d ps) :
    ∃ l : List COp, RdL W v 5 (l.map COp.cells) ∧ ∀ o ∈ l, HdWf o.h := by
  obtain ⟨fuel, hf⟩ := trod_of Try.underlying78 hok h
  haveI : Inhabited COp := ⟨⟨0, ⟨0, false, 0, 0⟩⟩⟩
  exact open_rows (P := Try.prog) (t := 78) (e := 84) Try.underlying78 5 cop_size COp.cells (fun o => HdWf o.h) (fun fuel cs x hx => cop_of hx) hf
theorem cops_at {w : World} {v : Value} {l : List COp} (h : RdL w v 5 (l.map COp.cells)) :
    ∃ A c, v = .slice A l.length c ∧ l.length ≤ c ∧ c ≤ maxLen ∧ ∀ (i : Nat) (o : COp), l[i]? = some o → ∃ b off, A = some ⟨b, off, none⟩ ∧ b < w.heap.size ∧
      w.cell? ⟨b, off + i * 5, none⟩ = some (.int .i64 o.kind) ∧ w.cell? ⟨b, off + i * 5 + 1, none⟩ = some (.int .u16 o.h.n) ∧ w.cell? ⟨b, off + i * 5 + 1 + 1, none⟩ = some (.bool o.h.any) ∧
      w.cell? ⟨b, off + i * 5 + 1 + 2, none⟩ = some (.int .u16 o.h.a) ∧ w.cell? ⟨b, off + i * 5 + 1 + 3, none⟩ = some (.int .u32 o.h.m) := by
  obtain ⟨A, c, hv, hc, hm, hr⟩ := h.form (by decide)
  rw [List.length_map] at hv hc
  refine ⟨A, c, hv, hc, hm, fun i o hi => ?_⟩
  obtain ⟨b, off, hA, hb, hr⟩ := hr i (by rw [List.length_map]; exact (List.getElem?_eq_some_iff.1 hi).1)
  have he : (l.map COp.cells)[i]? = some o.cells := by rw [List.getElem?_map, hi]; rfl
  exact ⟨b, off, hA, hb, hr _ he 0 _ rfl, hr _ he 1 _ rfl, hr _ he 2 _ rfl, hr _ he 3 _ rfl, hr _ he 4 _ rfl⟩

def WinOk (x : Win) : Prop := 0 ≤ x.last ∧ x.last ≤ 65535 ∧ 0 ≤ x.mask ∧ x.mask < 4294967296
theorem win_ok {x : Win} (h : WinOk x) (n : Int) (h0 : 0 ≤ n) (h1 : n ≤ 65535) : WinOk (takeW x n).1 := by
  obtain ⟨a, b, c, d⟩ := h
  unfold takeW
  split
  · exact ⟨h0, h1, Int.le_refl _, by show (0 : Int) < 4294967296; decide⟩
  · split
    · have ho := orI_range (shl32 x.mask (steps x.last n).toNat) (shl32 1 (steps x.last n - 1).toNat) (shl32_range _ _).2 (shl32_range _ _).2
      exact ⟨h0, h1, ho.1, ho.2⟩
    · split
      · exact ⟨a, b, c, d⟩
      · have ho := orI_range x.mask (shl32 1 (-(steps x.last n) - 1).toNat) d (shl32_range _ _).2
        exact ⟨a, b, ho.1, ho.2⟩

/-- The channel at b, the reference's at b2, at step k. -/
def PS (w0 : World) (b b2 k : Nat) (wr : World) : Prop :=
  ∃ (x : Win) (op : List Int) (L : List Bool) (v v2 : Value) (F : List Ent), op = opn 0 L ∧ op.length ≤ 64 ∧ L.length ≤ k ∧ WinOk x ∧
    Holds w0 w0.heap.size wr (.st b [.int .u16 (L.length : Int), .bool x.any, .int .u16 x.last, .int .u32 x.mask, v] 43 :: .rw v 22 1 op.length (u16s op) ::
      .st b2 [.int .i64 (L.length : Int), .bool x.any, .int .u16 x.last, .int .u32 x.mask, v2] 82 :: .rw v2 4 1 L.length (bls L) :: F)
theorem PS.next {w0 wr : World} {b b2 k : Nat} (h : PS w0 b b2 k wr) : PS w0 b b2 (k + 1) wr := by
  obtain ⟨x, op, L, v, v2, F, h1, h2, h3, h4, h⟩ := h
  exact ⟨x, op, L, v, v2, F, h1, h2, by omega, h4, h⟩
theorem PS.below {w0 wr : World} {b b2 k : Nat} (h : PS w0 b b2 k wr) : Below w0.heap.size w0 wr := by
  obtain ⟨x, op, L, v, v2, F, h1, h2, h3, h4, h⟩ := h
  exact h.below
theorem ps_start (w w1 : World) (hb : Below w.heap.size w w1) :
    PS w w1.heap.size (w1.heap.size + 1) 0 ((w1.alloc (.cells #[.int .u16 0, .bool false, .int .u16 0, .int .u32 0, .slice none 0 0] 43)).alloc (.cells #[.int .i64 0, .bool false, .int .u16 0, .int .u32 0, .slice none 0 0] 82)) := by
  have h0 := hbelowed' (Holds.start w) hb
  have h2 := (h0.alloc [.int .u16 0, .bool false, .int .u16 0, .int .u32 0, .slice none 0 0] 43).alloc [.int .i64 0, .bool false, .int .u16 0, .int .u32 0, .slice none 0 0] 82
  simp only [World.size_alloc] at h2
  have h3 := Holds.sel [_, _, _, _] ((h2.nilrow 22 1).nilrow 4 1) [3, 1, 2, 0] rfl
  exact ⟨⟨false, 0, 0⟩, [], [], _, _, [], rfl, by decide, Nat.le_refl _, by unfold WinOk; decide, h3⟩

theorem cwindow (W : World) (B : Nat) (w : World) (b : Nat) (n : Int) (x : Win) (v : Value) (F : List Ent) (hH : Holds W B w (.st b [.int .u16 n, .bool x.any, .int .u16 x.last, .int .u32 x.mask, v] 43 :: F)) :
    Calls Try.prog 38 #[.pointer (some ⟨b, 0, none⟩)] w fun e' w' => e' = .returned (.agg #[.bool x.any, .int .u16 x.last, .int .u32 x.mask]) ∧ Below w.heap.size w w' := by
  have h1 := (Holds.start w).alloc [.bool false, .int .u16 0, .int .u32 0] 30
  have hz := (Holds.start w).alloc [.bool x.any, .int .u16 x.last, .int .u32 x.mask] 30
  have e1 := hH.cell 1 rfl
  have e2 := hH.cell 2 rfl
  have e3 := hH.cell 3 rfl
  have hlt : b < w.heap.size := hH.lt
  have HZ := Lib.hid hz
  clear h1 hz hH
  go_enter Try.func38, Try.ntmps38
  go_wp2_with fail
  have hz := HZ.out
  refine bodyPost_ret (results_cell_row rfl _ _ _ _ _ _ _ rfl hz.head.2 Try.underlying30 rfl (by kernel_rfl)) rfl ?_
  exact ⟨rfl, hz.below⟩

end Go.Proofs.Ytlhlkjllihbokaa.R14
