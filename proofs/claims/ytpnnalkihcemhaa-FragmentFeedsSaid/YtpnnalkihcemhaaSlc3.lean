/- Slices that own a row of elements of many cells: cleared behind their end; by the pieces of memory. -/
import Derived.Test.YtpnnalkihcemhaaSlc
set_option linter.unusedVariables false
set_option linter.unusedSimpArgs false
namespace Go.Proofs.Ytpnnalkihcemhaa.Mem
open Go.RowKit

variable {W w w' : World} {B : Nat} {F : List Ent} {e : TypeId} {g cap n size : Nat} {xs : List Value}

theorem Holds.setBehindS (h : Holds W B w (.rw (.slice (some ⟨g, 0, none⟩) n cap) e size n xs :: F)) (j : Nat) (hj : n * size ≤ j) (u : Value) : Holds W B (w.setCell ⟨g, j, none⟩ u) (.rw (.slice (some ⟨g, 0, none⟩) n cap) e size n xs :: F) := by
  refine h.step ⟨rfl, rfl, rfl, by simp, fun k _ hk => heap_setCell_other w ⟨g, j, none⟩ k u (fun e => hk (by simp [e, Ent.key, Value.ownBlock]))⟩ ?_ (fun k hk => .inl hk)
  have ho := h.own
  rcases ho.2 with ⟨h, _⟩ | ⟨g', cap', cur, hv, hB, hg, hc, hm, hs, ht⟩
  · cases h
  · simp only [Value.slice.injEq, Option.some.injEq, Addr.mk.injEq, true_and, and_true] at hv
    obtain ⟨rfl, rfl⟩ := hv
    refine ⟨ho.1, .inr ⟨g, cap, cur.setIfInBounds j u, rfl, hB, heap_setCell_same w g j _ e u hg, hc, hm, by simpa using hs, ?_⟩⟩
    rw [Array.toList_setIfInBounds, List.take_set_of_le (by omega)]
    exact ht
theorem Holds.setsBehindS (vs : List Value) : ∀ {w : World} (j : Nat), Holds W B w (.rw (.slice (some ⟨g, 0, none⟩) n cap) e size n xs :: F) → n * size ≤ j → Holds W B (w.setCells g j vs) (.rw (.slice (some ⟨g, 0, none⟩) n cap) e size n xs :: F) := by
  induction vs with
  | nil => intro w j h _; exact h
  | cons v vs ih => intro w j h hj; exact ih (j + 1) (h.setBehindS j hj v) (by omega)
theorem Holds.thereS (h : Holds W B w (.rw (.slice (some ⟨g, 0, none⟩) n cap) e size n xs :: F)) (j : Nat) (hj : j < cap * size) : (w.cell? ⟨g, j, none⟩).isSome = true := by
  rcases h.own.2 with ⟨h, _⟩ | ⟨g', cap', cur, hv, hB, hg, hc, hm, hs, ht⟩
  · cases h
  · simp only [Value.slice.injEq, Option.some.injEq, Addr.mk.injEq, true_and, and_true] at hv
    obtain ⟨rfl, rfl⟩ := hv
    rw [cell_of_row w g j cur e (0, 0) hg, Array.getElem?_eq_getElem (by omega)]
    rfl

/-- 'clear(s)', s of one element of many cells. -/
theorem run_clear_one {P : Program} (w : World) (t e ty : TypeId) (z : Value) (zs : List Value) (ht : P.underlying t = some (.slice e)) (hv : ∀ w, (zeroValue e).run P w = .ok z w) (hz : (Builtin.zeroCells z.cells 1).toList = zs) (h1 : ∀ u ∈ zs, u.oneCell' = true) (b o c : Nat)
    (hc : ∀ j, j < zs.length → (w.cell? ⟨b, o + j, none⟩).isSome = true) (hf : ∀ j, j < zs.length → w.frozen? ⟨b, o + j, none⟩ = false) :
    (Builtin.clear_ #[t] ty #[.slice (some ⟨b, o, none⟩) 1 c]).run P w = .ok (.tuple #[]) (w.setCells b o zs) := by
  have hst := run_storeCells_cells (P := P) b o zs 0 w (by simpa using hc) (by simpa using hf) h1
  simp only [Nat.add_zero] at hst
  simp [Builtin.clear_, run_underlying ht, hv, hz, hst]

end Go.Proofs.Ytpnnalkihcemhaa.Mem
