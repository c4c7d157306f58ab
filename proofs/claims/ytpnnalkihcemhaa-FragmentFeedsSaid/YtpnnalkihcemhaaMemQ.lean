/- A slice that is cut from the front and appended to: its cells lie somewhere in a block of its own. -/
import Derived.Test.YtpnnalkihcemhaaMem
import Derived.Deep.AppendSrc
import Derived.Laws.IdiomCopy
set_option linter.unusedVariables false
set_option linter.unusedSimpArgs false
namespace Go.Proofs.Ytpnnalkihcemhaa.Mem
open Go.RowKit

variable {W w w' : World} {B : Nat} {F : List Ent} {e : TypeId} {v : Value} {xs : List Value}

theorem add_none' (g o j : Nat) : (⟨g, o, none⟩ : Addr).add j = ⟨g, o + j, none⟩ := by unfold Addr.add; split <;> simp_all

theorem ownsQ.cells {g off cap : Nat} (h : ownsQ w B e (.slice (some ⟨g, off, none⟩) xs.length cap) xs) : ∀ j u, xs[j]? = some u → w.cell? ((⟨g, off, none⟩ : Addr).add j) = some u := by
  rcases h with ⟨h, _⟩ | ⟨g', off', cap', cur, hv, hB, hg, hc, hs, hm, hr⟩
  · cases h
  · simp only [Value.slice.injEq, Option.some.injEq, Addr.mk.injEq, true_and, and_true] at hv
    obtain ⟨⟨rfl, rfl⟩, rfl⟩ := hv
    intro j u hu
    rw [add_none', cell_of_row w _ _ cur e (0, 0) hg]
    exact hr j u hu

theorem ownsQ.rd (h : ownsQ w B e v xs) : Rd w v xs.length xs := by
  rcases h with ⟨rfl, rfl⟩ | ⟨g, off, cap, cur, rfl, hB, hg, hc, hs, hm, hr⟩
  · exact .inl ⟨rfl, rfl, rfl⟩
  · exact .inr ⟨⟨g, off, none⟩, cap, rfl, hc, hm, ownsQ.cells (.inr ⟨g, off, cap, cur, rfl, hB, hg, hc, hs, hm, hr⟩)⟩

theorem ownsQ_row {n : Nat} (h : w.ownsRow B e 1 v n xs) : ownsQ w B e v xs := by
  rcases h.2 with ⟨rfl, rfl⟩ | ⟨g, cap, cur, rfl, hB, hg, hc, hm, hs, ht⟩
  · exact .inl ⟨rfl, List.eq_nil_of_length_eq_zero (by simpa using h.1)⟩
  · have hl := h.1
    rw [Nat.mul_one] at hl hs ht
    subst hl
    refine .inr ⟨g, 0, cap, cur, rfl, hB, hg, hc, by omega, hm, fun j u hu => ?_⟩
    rw [← ht, List.getElem?_take] at hu
    split at hu
    · rw [Nat.zero_add]; simpa using hu
    · cases hu

theorem run_append_q {P : Program} (base : Nat) (t ty e : TypeId) (i : TypeInfo) (z : Value) (bytes : Nat) (ht : P.underlying t = some (.slice e)) (hi : P.info? e = some i) (hz : i.zero = some z)
    (hsize : i.size = 1) (hby : i.bytes = bytes) (hzs : z.cells.size = 1) (v : Value) (xs : List Value) (hown : ownsQ w base e v xs) (a : Addr) (c : Nat) (u : Value) (hnews : ∀ j x, [u][j]? = some x → w.cell? (a.add j) = some x) (h1 : ∀ x ∈ [u], x.oneCell' = true)
    (h63 : xs.length + 1 ≤ maxLen) (hbytes : (xs.length + 1) * bytes ≤ 140737488355328) (hbase : base ≤ w.heap.size) :
    ∃ v' w', (Builtin.append_ #[t, t] ty #[v, .slice (some a) 1 c]).run P w = .ok v' w' ∧ ownsQ w' base e v' (xs ++ [u]) ∧ w.grownBy w' v.ownBlock ∧ (v'.ownBlock = v.ownBlock ∨ v'.ownBlock = some w.heap.size) := by
  have fresh : ∀ v, w.ownsRow base e 1 v xs.length xs → ∃ v' w', (Builtin.append_ #[t, t] ty #[v, .slice (some a) 1 c]).run P w = .ok v' w' ∧ ownsQ w' base e v' (xs ++ [u]) ∧ w.grownBy w' v.ownBlock ∧ (v'.ownBlock = v.ownBlock ∨ v'.ownBlock = some w.heap.size) := by
    intro v hv
    obtain ⟨v', w', hr, h2, h3, _, h5⟩ := run_append_own_at (P := P) w base t ty e i z 1 bytes ht hi hz hsize hby hzs (by decide) v xs.length xs hv a 1 c [u] rfl hnews h1 h63 hbytes hbase
    exact ⟨v', w', hr, ownsQ_row h2, h3, h5⟩
  rcases hown with ⟨rfl, rfl⟩ | ⟨g, off, cap, cur, rfl, hB, hg, hc, hs, hm, hr⟩
  · exact fresh _ (World.ownsRow_nil _ _ _ _)
  · by_cases hroom : xs.length + 1 ≤ cap
    · have hlt : off + xs.length < cur.size := by omega
      have hsrc : Src P i.size t (.slice (some a) 1 c) 1 [u] w := Src.ofSlice w ht a 1 c [u] (by rw [hsize]; rfl) hnews h1
      have hrun := run_append_room_src (P := P) w t t ty e i ht hi g off xs.length cap (.slice (some a) 1 c) 1 [u] hsrc hroom
        (fun j hj => by
          have : j = 0 := by simp at hj; omega
          subst this
          rw [hsize, cell_of_row w _ _ cur e (0, 0) hg, Nat.mul_one, Nat.add_zero, Array.getElem?_eq_getElem hlt]
          rfl)
        (fun j hj => frozen_of_row w g _ cur e hg)
      rw [hsize, Nat.mul_one] at hrun
      refine ⟨_, _, hrun, ?_, ?_, .inl rfl⟩
      · refine .inr ⟨g, off, cap, cur.setIfInBounds (off + xs.length) u, by simp, hB, heap_setCell_same w g _ cur e u hg, by simpa using hroom, by simpa using hs, hm, fun j x hx => ?_⟩
        rw [Array.getElem?_setIfInBounds]
        by_cases hj : j < xs.length
        · rw [List.getElem?_append_left hj] at hx
          rw [if_neg (by omega)]
          exact hr j x hx
        · have hj2 : j = xs.length := by
            have := (List.getElem?_eq_some_iff.1 hx).1
            simp at this
            omega
          subst hj2
          rw [if_pos rfl, if_pos (by omega)]
          rw [List.getElem?_append_right (Nat.le_refl _), Nat.sub_self] at hx
          exact hx
      · exact ⟨rfl, rfl, rfl, by simp [World.setCells], fun k _ hk => heap_setCell_other w ⟨g, _, none⟩ k u (fun e' => hk (by simp [e', Value.ownBlock]))⟩
    · have holds := ownsQ.cells (w := w) (B := base) (e := e) (.inr ⟨g, off, cap, cur, rfl, hB, hg, hc, hs, hm, hr⟩)
      have hrun := run_append_grow (P := P) w t ty e i z ht hi hz ⟨g, off, none⟩ xs.length cap xs (by rw [hsize, Nat.mul_one]) holds a 1 c [u] (by rw [hsize]; rfl) hnews (by omega) (by unfold maxLen at h63; omega)
        (growslice_fits (by omega) (by rw [hby]; exact hbytes))
      have hge := grownCap_ge w (xs.length + 1) cap e
      have hcm : grownCap w (xs.length + 1) cap e ≤ maxLen := grownCap_le_maxLen w (xs.length + 1) cap e h63
      refine ⟨_, _, hrun, .inr ⟨w.heap.size, 0, _, _, by simp, hbase, heap_alloc_new w.drew _, by simpa using hge, ?_, hcm, ?_⟩, ⟨rfl, rfl, rfl, by simp, fun k hk _ => heap_alloc_old w.drew _ hk⟩, .inr rfl⟩
      · simp only [Array.size_append, List.size_toArray, size_zeroCells, hzs, Nat.mul_one, List.length_cons, List.length_nil]
        omega
      · intro j x hx
        rw [Nat.zero_add, Array.getElem?_append_left (by simpa using (List.getElem?_eq_some_iff.1 hx).1)]
        simpa using hx

/-- At a plain region's list. -/
theorem wpList_append_q {P : Program} {ops : Array Oper} {rest : List Oper} {o : Oper} {a : Act} {Q : Exit → Act → World → Prop} (hgd : o.guard = none) (s x : Operand) (t : TypeId)
    (ho : o.op = .call { callee := .builtin .append, args := #[s, x], argTypes := #[t, t] }) (base : Nat) (e : TypeId) (i : TypeInfo) (z : Value) (bytes : Nat) (ht : P.underlying t = some (.slice e)) (hi : P.info? e = some i) (hz : i.zero = some z)
    (hsize : i.size = 1) (hby : i.bytes = bytes) (hzs : z.cells.size = 1) (v : Value) (xs : List Value) (hs : a.eval s = v) (hown : ownsQ w base e v xs) (ad : Addr) (c : Nat) (u : Value) (hx : a.eval x = .slice (some ad) 1 c)
    (hnews : ∀ j x, [u][j]? = some x → w.cell? (ad.add j) = some x) (h1 : ∀ x ∈ [u], x.oneCell' = true) (h63 : xs.length + 1 ≤ maxLen) (hbytes : (xs.length + 1) * bytes ≤ 140737488355328) (hbase : base ≤ w.heap.size)
    (h : ∀ v' w', ownsQ w' base e v' (xs ++ [u]) → w.grownBy w' v.ownBlock → (v'.ownBlock = v.ownBlock ∨ v'.ownBlock = some w.heap.size) → wpList P ops Q rest (a.put o.dst v') w') : wpList P ops Q (o :: rest) a w := by
  refine wpList_plain hgd fun K hK => ?_
  obtain ⟨v', w', hr, h2, h3, h4⟩ := run_append_q (P := P) base t o.type e i z bytes ht hi hz hsize hby hzs v xs hown ad c u hnews h1 h63 hbytes hbase
  unfold Oper.wp execOp
  simp only [ho, resolve, invoke, builtin, Sem.run_bind, Sem.run_pure, Result.andThen_ok, List.map_toArray, List.map_cons, List.map_nil, hs, hx, hr]
  exact hK _ _ (h v' w' h2 h3 h4)

theorem Holds.qgrew {v' : Value} {xs' : List Value} (h : Holds W B w (.qu v e xs :: F)) (ho : ownsQ w' B e v' xs') (hg : w.grownBy w' v.ownBlock) (hat : v'.ownBlock = v.ownBlock ∨ v'.ownBlock = some w.heap.size) : Holds W B w' (.qu v' e xs' :: F) := by
  refine h.step hg ho fun k hk => ?_
  rcases hat with he | he
  · exact .inl (he.symm.trans hk)
  · right
    have hk' : v'.ownBlock = some k := hk
    rw [he] at hk'
    exact Nat.le_of_eq (Option.some.inj hk')

theorem Holds.nilqu {H : List Ent} (h : Holds W B w H) (e : TypeId) : Holds W B w (.qu (.slice none 0 0) e [] :: H) :=
  h.push (.inl ⟨rfl, rfl⟩) fun k hk => by simp [Ent.key, Value.ownBlock] at hk

theorem Holds.qslice (h : Holds W B w (.qu v e xs :: F)) : ∃ A c, v = .slice A xs.length c ∧ xs.length ≤ c ∧ c ≤ maxLen ∧ (0 < xs.length → ∃ g off, A = some ⟨g, off, none⟩) := by
  rcases h.head with ⟨rfl, rfl⟩ | ⟨g, off, cap, cur, rfl, hB, hg, hc, hs, hm, hr⟩
  · exact ⟨none, 0, rfl, Nat.le_refl _, Nat.zero_le _, fun h => by simp at h⟩
  · exact ⟨_, cap, rfl, hc, hm, fun _ => ⟨g, off, rfl⟩⟩

/-- The first n are cut off. -/
theorem Holds.qcut {g off cap n : Nat} (h : Holds W B w (.qu (.slice (some ⟨g, off, none⟩) xs.length cap) e xs :: F)) (hn : n ≤ xs.length) (hc : n < cap) : Holds W B w (.qu (.slice (some ⟨g, off + n, none⟩) (xs.length - n) (cap - n)) e (xs.drop n) :: F) := by
  refine h.step ⟨rfl, rfl, rfl, Nat.le_refl _, fun _ _ _ => rfl⟩ ?_ (fun k hk => .inl hk)
  rcases h.head with ⟨h, _⟩ | ⟨g', off', cap', cur, hv, hB, hg, hcc, hs, hm, hr⟩
  · cases h
  · simp only [Value.slice.injEq, Option.some.injEq, Addr.mk.injEq, true_and, and_true] at hv
    obtain ⟨⟨rfl, rfl⟩, rfl⟩ := hv
    refine .inr ⟨_, _, _, cur, by rw [List.length_drop], hB, hg, by rw [List.length_drop]; omega, by omega, by omega, fun j u hu => ?_⟩
    rw [List.getElem?_drop] at hu
    rw [Nat.add_assoc]
    exact hr _ u hu
theorem Holds.qcut_all {g off cap off' : Nat} (h : Holds W B w (.qu (.slice (some ⟨g, off, none⟩) xs.length cap) e xs :: F)) (hc : cap = xs.length) (ho : off' ≤ off) : Holds W B w (.qu (.slice (some ⟨g, off', none⟩) 0 0) e (xs.drop xs.length) :: F) := by
  refine h.step ⟨rfl, rfl, rfl, Nat.le_refl _, fun _ _ _ => rfl⟩ ?_ (fun k hk => .inl hk)
  rcases h.head with ⟨h, _⟩ | ⟨g', off', cap', cur, hv, hB, hg, hcc, hs, hm, hr⟩
  · cases h
  · simp only [Value.slice.injEq, Option.some.injEq, Addr.mk.injEq, true_and, and_true] at hv
    obtain ⟨⟨rfl, rfl⟩, rfl⟩ := hv
    rw [List.drop_length]
    refine .inr ⟨_, _, _, cur, rfl, hB, hg, Nat.le_refl _, by omega, by omega, fun j u hu => by simp at hu⟩

end Go.Proofs.Ytpnnalkihcemhaa.Mem
