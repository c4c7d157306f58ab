/- Slices that own a row of one-cell elements: shortened, cleared behind their end; by the pieces of memory. -/
import Derived.Test.YtpnnalkihcemhaaApp
import Derived.Lib.SliceRun
set_option linter.unusedVariables false
set_option linter.unusedSimpArgs false
namespace Go.Proofs.Ytpnnalkihcemhaa.Mem
open Go.RowKit

variable {W w w' : World} {B : Nat} {F : List Ent} {e : TypeId} {g cap n : Nat} {xs : List Value}

theorem own_cut {size : Nat} (h : w.ownsRow B e size (.slice (some ⟨g, 0, none⟩) n cap) n xs) (k : Nat) (hk : k ≤ n) : w.ownsRow B e size (.slice (some ⟨g, 0, none⟩) k cap) k (xs.take (k * size)) := by
  rcases h.2 with ⟨h, _⟩ | ⟨g', cap', cur, hv, hB, hg, hc, hm, hs, ht⟩
  · cases h
  · simp only [Value.slice.injEq, Option.some.injEq, Addr.mk.injEq, true_and, and_true] at hv
    obtain ⟨rfl, rfl⟩ := hv
    have hks : k * size ≤ n * size := Nat.mul_le_mul_right _ hk
    refine ⟨by rw [List.length_take, h.1]; omega, .inr ⟨g, cap, cur, rfl, hB, hg, by omega, hm, hs, ?_⟩⟩
    rw [← ht, List.take_take, Nat.min_eq_left hks]

/-- The slice is cut behind its k-th element. -/
theorem Holds.shrink {size : Nat} (h : Holds W B w (.rw (.slice (some ⟨g, 0, none⟩) n cap) e size n xs :: F)) (k : Nat) (hk : k ≤ n) : Holds W B w (.rw (.slice (some ⟨g, 0, none⟩) k cap) e size k (xs.take (k * size)) :: F) :=
  h.step ⟨rfl, rfl, rfl, Nat.le_refl _, fun _ _ _ => rfl⟩ (own_cut h.own k hk) (fun j hj => .inl hj)

/-- A cell of the row behind the slice's end turns. -/
theorem Holds.setBehind (h : Holds W B w (.rw (.slice (some ⟨g, 0, none⟩) n cap) e 1 n xs :: F)) (j : Nat) (hj : n ≤ j) (u : Value) : Holds W B (w.setCell ⟨g, j, none⟩ u) (.rw (.slice (some ⟨g, 0, none⟩) n cap) e 1 n xs :: F) := by
  refine h.step ⟨rfl, rfl, rfl, by simp, fun k _ hk => heap_setCell_other w ⟨g, j, none⟩ k u (fun e => hk (by simp [e, Ent.key, Value.ownBlock]))⟩ ?_ (fun k hk => .inl hk)
  have ho := h.own
  rcases ho.2 with ⟨h, _⟩ | ⟨g', cap', cur, hv, hB, hg, hc, hm, hs, ht⟩
  · cases h
  · simp only [Value.slice.injEq, Option.some.injEq, Addr.mk.injEq, true_and, and_true] at hv
    obtain ⟨rfl, rfl⟩ := hv
    refine ⟨ho.1, .inr ⟨g, cap, cur.setIfInBounds j u, rfl, hB, heap_setCell_same w g j _ e u hg, hc, hm, by simpa using hs, ?_⟩⟩
    rw [Array.toList_setIfInBounds, List.take_set_of_le (by omega)]
    exact ht

theorem Holds.setsBehind (vs : List Value) : ∀ {w : World} (j : Nat), Holds W B w (.rw (.slice (some ⟨g, 0, none⟩) n cap) e 1 n xs :: F) → n ≤ j → Holds W B (w.setCells g j vs) (.rw (.slice (some ⟨g, 0, none⟩) n cap) e 1 n xs :: F) := by
  induction vs with
  | nil => intro w j h _; exact h
  | cons v vs ih => intro w j h hj; exact ih (j + 1) (h.setBehind j hj v) (by omega)

/-- A cell of the row is there, up to the slice's capacity. -/
theorem Holds.there (h : Holds W B w (.rw (.slice (some ⟨g, 0, none⟩) n cap) e 1 n xs :: F)) (j : Nat) (hj : j < cap) : (w.cell? ⟨g, j, none⟩).isSome = true := by
  rcases h.own.2 with ⟨h, _⟩ | ⟨g', cap', cur, hv, hB, hg, hc, hm, hs, ht⟩
  · cases h
  · simp only [Value.slice.injEq, Option.some.injEq, Addr.mk.injEq, true_and, and_true] at hv
    obtain ⟨rfl, rfl⟩ := hv
    rw [cell_of_row w g j cur e (0, 0) hg, Array.getElem?_eq_getElem (by omega)]
    rfl

theorem wpList_clear {P : Program} {ops : Array Oper} {rest : List Oper} {o : Oper} {a : Act} {Q : Exit → Act → World → Prop} (hg : o.guard = none) (x : Operand) (t : TypeId) (hop : o.op = .call { callee := .builtin .clear, args := #[x], argTypes := #[t] })
    (e : TypeId) (z : Value) (ht : P.underlying t = some (.slice e)) (hv : ∀ w, (zeroValue e).run P w = .ok z w) (hz : z.cells = #[z]) (h1 : z.oneCell' = true) {b off n c : Nat} (hx : a.eval x = .slice (some ⟨b, off, none⟩) n c) (hn : 0 < n)
    (hc : ∀ j, j < n → (w.cell? ⟨b, off + j, none⟩).isSome = true) (hf : ∀ j, j < n → w.frozen? ⟨b, off + j, none⟩ = false)
    (h : wpList P ops Q rest (a.put o.dst (.tuple #[])) (w.setCells b off (List.replicate n z))) : wpList P ops Q (o :: rest) a w := by
  refine wpList_plain hg fun K hK => ?_
  have hr := Lib.run_clear_slice (P := P) w t e o.type z ht hv hz h1 b off n c hn hc hf
  unfold Oper.wp execOp
  simp only [hop, resolve, invoke, builtin, Sem.run_bind, Sem.run_pure, Result.andThen_ok, List.map_toArray, List.map_cons, List.map_nil, hx, hr]
  exact hK _ _ h

end Go.Proofs.Ytpnnalkihcemhaa.Mem
