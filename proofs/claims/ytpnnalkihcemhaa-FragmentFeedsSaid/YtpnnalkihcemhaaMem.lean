/- Memory that a call makes and keeps: a list of pieces, each in a block of its own, and what every step on one of them leaves. -/
import Derived.WalkKit
import Derived.Maps.AppendAt
import Derived.Deep.Draws
import Derived.Deep.OwnRows
import Derived.Lib.Hide
import Derived.StillTailTactics
import Derived.Deep.QuietTactic
import Derived.BigQuiet
import Derived.WalkSpells
set_option linter.unusedVariables false
set_option linter.unusedSimpArgs false
namespace Go.Proofs.Ytpnnalkihcemhaa.Mem
open Go.RowKit

theorem ret_b {a b : Bool} (h : a = b) : Ending.returned (.bool a) = .returned (.bool b) := by rw [h]
theorem ret_i {k : IntKind} {a b : Int} (h : a = b) : Ending.returned (.int k a) = .returned (.int k b) := by rw [h]

/-- The cells xs of the slice v lie somewhere in a block from B on that is its own, with room behind as v's capacity says. -/
def ownsQ (w : World) (B : Nat) (e : TypeId) (v : Value) (xs : List Value) : Prop :=
  (v = .slice none 0 0 ∧ xs = []) ∨ ∃ g off cap, ∃ cur : Array Value, v = .slice (some ⟨g, off, none⟩) xs.length cap ∧ B ≤ g ∧ w.heap[g]? = some (.cells cur e (0, 0)) ∧ xs.length ≤ cap ∧ off + cap ≤ cur.size ∧ cap ≤ maxLen ∧
    ∀ j u, xs[j]? = some u → cur[off + j]? = some u

/-- One piece of memory: 'st': a block whose cells are just these; 'rw': a slice that owns a row of its own from the row's head on; 'ob': a block that is this object. -/
inductive Ent where
  | st (b : Nat) (cs : List Value) (e : TypeId)
  | rw (v : Value) (e : TypeId) (size n : Nat) (xs : List Value)
  | qu (v : Value) (e : TypeId) (xs : List Value)
  | ob (b : Nat) (o : Obj)

def Ent.key : Ent → Option Nat
  | .st b _ _ => some b
  | .rw v _ _ _ _ => v.ownBlock
  | .qu v _ _ => v.ownBlock
  | .ob b _ => some b

def Ent.ok (B : Nat) (w : World) : Ent → Prop
  | .st b cs e => B ≤ b ∧ w.heap[b]? = some (.cells cs.toArray e (0, 0))
  | .rw v e size n xs => w.ownsRow B e size v n xs
  | .qu v e xs => ownsQ w B e v xs
  | .ob b o => B ≤ b ∧ w.heap[b]? = some o

/-- The world w came of W; below block B it is as W was; the pieces H lie from B on, no two in one block. -/
structure Holds (W : World) (B : Nat) (w : World) (H : List Ent) : Prop where
  below : Below B W w
  size : B ≤ w.heap.size
  each : ∀ e, e ∈ H → e.ok B w
  nodup : (H.filterMap Ent.key).Nodup

variable {W w w' : World} {B : Nat} {F : List Ent}

theorem Ent.ok.lt {x : Ent} (h : x.ok B w) {k : Nat} (hk : x.key = some k) : B ≤ k ∧ k < w.heap.size := by
  cases x with
  | st b cs e =>
    simp only [Ent.key, Option.some.injEq] at hk
    subst hk
    exact ⟨h.1, (Array.getElem?_eq_some_iff.1 h.2).1⟩
  | rw v e size n xs => exact World.ownsRow.lt h k hk
  | qu v e xs =>
    rcases h with ⟨rfl, _⟩ | ⟨g, off, cap, cur, rfl, hB, hg, rest⟩
    · simp [Ent.key, Value.ownBlock] at hk
    · simp only [Ent.key, Value.ownBlock, Option.some.injEq] at hk
      subst hk
      exact ⟨hB, (Array.getElem?_eq_some_iff.1 hg).1⟩
  | ob b o =>
    simp only [Ent.key, Option.some.injEq] at hk
    subst hk
    exact ⟨h.1, (Array.getElem?_eq_some_iff.1 h.2).1⟩

theorem Ent.ok.kept {x : Ent} (h : x.ok B w) (hb : ∀ k, x.key = some k → w'.heap[k]? = w.heap[k]?) : x.ok B w' := by
  cases x with
  | st b cs e => exact ⟨h.1, (hb b rfl).trans h.2⟩
  | rw v e size n xs =>
    refine ⟨h.1, ?_⟩
    rcases h.2 with hn | ⟨g, cap, cur, rfl, hB, hg, rest⟩
    · exact .inl hn
    · exact .inr ⟨g, cap, cur, rfl, hB, (hb g rfl).trans hg, rest⟩
  | qu v e xs =>
    rcases h with hn | ⟨g, off, cap, cur, rfl, hB, hg, rest⟩
    · exact .inl hn
    · exact .inr ⟨g, off, cap, cur, rfl, hB, (hb g rfl).trans hg, rest⟩
  | ob b o => exact ⟨h.1, (hb b rfl).trans h.2⟩

theorem Holds.start (w : World) : Holds w w.heap.size w [] := ⟨Below.refl _ _, Nat.le_refl _, fun _ h => by simp at h, by simp⟩

theorem Holds.perm {H H' : List Ent} (h : Holds W B w H) (p : H.Perm H') : Holds W B w H' :=
  ⟨h.below, h.size, fun e he => h.each e (p.mem_iff.2 he), (p.filterMap Ent.key).nodup_iff.1 h.nodup⟩

theorem Holds.tail {x : Ent} (h : Holds W B w (x :: F)) : Holds W B w F :=
  ⟨h.below, h.size, fun e he => h.each e (List.mem_cons_of_mem _ he), by
    have := h.nodup
    cases hk : x.key <;> simp only [List.filterMap_cons, hk] at this
    · exact this
    · exact (List.nodup_cons.1 this).2⟩

theorem Holds.nil {H : List Ent} (h : Holds W B w H) : Holds W B w [] := ⟨h.below, h.size, fun _ h => by simp at h, by simp⟩

theorem Holds.head {x : Ent} (h : Holds W B w (x :: F)) : x.ok B w := h.each x (by simp)

/-- No other piece lies in the first one's block. -/
theorem Holds.apart {x : Ent} (h : Holds W B w (x :: F)) {y : Ent} (hy : y ∈ F) {k : Nat} (hk : y.key = some k) : x.key ≠ some k := by
  intro hx
  have := h.nodup
  simp only [List.filterMap_cons, hx] at this
  exact (List.nodup_cons.1 this).1 (List.mem_filterMap.2 ⟨y, hy, hk⟩)

/-- THE STEP: the first piece's block may have turned, and blocks may have come. -/
theorem Holds.step {x x' : Ent} (h : Holds W B w (x :: F)) (hg : w.grownBy w' x.key) (hx : x'.ok B w')
    (hk : ∀ k, x'.key = some k → x.key = some k ∨ w.heap.size ≤ k) : Holds W B w' (x' :: F) := by
  have hkept : ∀ y, y ∈ F → y.ok B w' := fun y hy => (h.each y (List.mem_cons_of_mem _ hy)).kept fun k hk =>
    hg.block k ((h.each y (List.mem_cons_of_mem _ hy)).lt hk).2 (fun e => h.apart hy hk e.symm)
  refine ⟨h.below.grown hg h.size (fun k hk => (h.head.lt hk).1), Nat.le_trans h.size hg.size, fun y hy => ?_, ?_⟩
  · rcases List.mem_cons.1 hy with rfl | hy
    · exact hx
    · exact hkept y hy
  · cases hk' : x'.key with
    | none => simp only [List.filterMap_cons, hk']; exact h.tail.nodup
    | some k =>
      simp only [List.filterMap_cons, hk']
      refine List.nodup_cons.2 ⟨fun hm => ?_, h.tail.nodup⟩
      obtain ⟨y, hy, hyk⟩ := List.mem_filterMap.1 hm
      rcases hk k hk' with hx | hlt
      · exact h.apart hy hyk hx
      · have := ((h.each y (List.mem_cons_of_mem _ hy)).lt hyk).2
        omega

/-- Nothing of what is held has turned; blocks may have come. -/
theorem Holds.same {H : List Ent} (h : Holds W B w H) (hg : w.grownBy w' none) : Holds W B w' H := by
  refine ⟨h.below.grown hg h.size (fun k hk => by cases hk), Nat.le_trans h.size hg.size, fun y hy => ?_, h.nodup⟩
  exact (h.each y hy).kept fun k hk => hg.block k ((h.each y hy).lt hk).2 (by simp)

theorem Holds.drew {H : List Ent} (h : Holds W B w H) : Holds W B w.drew H := h.same ⟨rfl, rfl, rfl, Nat.le_refl _, fun _ _ _ => rfl⟩
theorem Holds.drewN {H : List Ent} (h : Holds W B w H) (n : Nat) : Holds W B (w.drewN n) H := h.same ⟨rfl, rfl, rfl, Nat.le_refl _, fun _ _ _ => rfl⟩
theorem Holds.alloc' {H : List Ent} (h : Holds W B w H) (o : Obj) : Holds W B (w.alloc o) H := h.same (World.grownBy_alloc w o none)

/-- A piece comes. -/
theorem Holds.push {H : List Ent} {x : Ent} (h : Holds W B w H) (hx : x.ok B w) (hk : ∀ k, x.key = some k → ∀ y, y ∈ H → y.key ≠ some k) : Holds W B w (x :: H) := by
  refine ⟨h.below, h.size, fun y hy => ?_, ?_⟩
  · rcases List.mem_cons.1 hy with rfl | hy
    · exact hx
    · exact h.each y hy
  · cases hk' : x.key with
    | none => simp only [List.filterMap_cons, hk']; exact h.nodup
    | some k =>
      simp only [List.filterMap_cons, hk']
      refine List.nodup_cons.2 ⟨fun hm => ?_, h.nodup⟩
      obtain ⟨y, hy, hyk⟩ := List.mem_filterMap.1 hm
      exact hk k hk' y hy hyk

theorem Holds.alloc {H : List Ent} (h : Holds W B w H) (cs : List Value) (e : TypeId) : Holds W B (w.alloc (.cells cs.toArray e)) (.st w.heap.size cs e :: H) :=
  (h.alloc' _).push ⟨h.size, heap_alloc_new w _⟩ fun k hk y hy hyk => by
    simp only [Ent.key, Option.some.injEq] at hk
    subst hk
    have := ((h.each y hy).lt hyk).2
    omega

theorem Holds.nilrow {H : List Ent} (h : Holds W B w H) (e : TypeId) (size : Nat) : Holds W B w (.rw (.slice none 0 0) e size 0 [] :: H) :=
  h.push (World.ownsRow_nil _ _ _ _) fun k hk => by simp [Ent.key, Value.ownBlock] at hk

/-! What is read of a block. -/
section
variable {b : Nat} {cs : List Value} {e : TypeId}
theorem Holds.cell (h : Holds W B w (.st b cs e :: F)) (k : Nat) {v : Value} (hv : cs[k]? = some v) : w.cell? ⟨b, k, none⟩ = some v := by
  rw [cell_of_row w b k _ e (0, 0) h.head.2]
  simpa using hv
theorem Holds.frozen (h : Holds W B w (.st b cs e :: F)) (k : Nat) : w.frozen? ⟨b, k, none⟩ = false := frozen_of_row w b k _ e h.head.2
theorem Holds.lt (h : Holds W B w (.st b cs e :: F)) : b < w.heap.size := (h.head.lt rfl).2
theorem Holds.ge (h : Holds W B w (.st b cs e :: F)) : B ≤ b := h.head.1
theorem Holds.set (h : Holds W B w (.st b cs e :: F)) (k : Nat) (v : Value) : Holds W B (w.setCell ⟨b, k, none⟩ v) (.st b (cs.set k v) e :: F) := by
  refine h.step ⟨rfl, rfl, rfl, by simp, fun j _ hj => heap_setCell_other w ⟨b, k, none⟩ j v (fun e => hj (by simp [e, Ent.key]))⟩ ⟨h.head.1, ?_⟩ (fun k hk => .inl hk)
  rw [heap_setCell_same w b k _ e v h.head.2]
  simp
end

/-! What is read of a row, and what is stored into it. -/
section
variable {v : Value} {e : TypeId} {size n : Nat} {xs : List Value}
theorem Holds.own (h : Holds W B w (.rw v e size n xs :: F)) : w.ownsRow B e size v n xs := h.head
theorem Holds.rcell {g cap : Nat} (h : Holds W B w (.rw (.slice (some ⟨g, 0, none⟩) n cap) e size n xs :: F)) (j : Nat) (hj : j < n * size) : w.cell? ⟨g, j, none⟩ = xs[j]? := h.own.cellAt j hj
theorem Holds.rfrozen {g cap : Nat} (h : Holds W B w (.rw (.slice (some ⟨g, 0, none⟩) n cap) e size n xs :: F)) (j : Nat) : w.frozen? ⟨g, j, none⟩ = false := h.own.frozenAt j
theorem Holds.rset {g cap : Nat} (h : Holds W B w (.rw (.slice (some ⟨g, 0, none⟩) n cap) e size n xs :: F)) (j : Nat) (u : Value) :
    Holds W B (w.setCell ⟨g, j, none⟩ u) (.rw (.slice (some ⟨g, 0, none⟩) n cap) e size n (xs.set j u) :: F) :=
  h.step (h.own.stored j u).2 (h.own.stored j u).1 (fun k hk => .inl hk)
/-- Behind an append. -/
theorem Holds.grew {v' : Value} {n' : Nat} {xs' : List Value} (h : Holds W B w (.rw v e size n xs :: F)) (ho : w'.ownsRow B e size v' n' xs') (hg : w.grownBy w' v.ownBlock)
    (hat : v'.ownBlock = v.ownBlock ∨ ∃ k, v'.ownBlock = some k ∧ w.heap.size ≤ k) : Holds W B w' (.rw v' e size n' xs' :: F) := by
  refine h.step hg ho fun k hk => ?_
  rcases hat with he | ⟨j, he, hj⟩
  · exact .inl (he.symm.trans hk)
  · have : j = k := Option.some.inj (he.symm.trans hk)
    subst this
    exact .inr hj
theorem Holds.slice (h : Holds W B w (.rw v e size n xs :: F)) : ∃ A c, v = .slice A n c := by
  rcases h.own.2 with ⟨rfl, rfl⟩ | ⟨g, cap, cur, rfl, _⟩
  · exact ⟨none, 0, rfl⟩
  · exact ⟨_, cap, rfl⟩
theorem Holds.row (h : Holds W B w (.rw v e size n xs :: F)) (hn : 0 < n) : ∃ g cap, v = .slice (some ⟨g, 0, none⟩) n cap ∧ n ≤ cap ∧ B ≤ g ∧ g < w.heap.size := by
  rcases h.own.2 with ⟨rfl, rfl⟩ | ⟨g, cap, cur, rfl, hB, hg, hc, _⟩
  · omega
  · exact ⟨g, cap, rfl, hc, hB, (Array.getElem?_eq_some_iff.1 hg).1⟩
theorem Holds.len (h : Holds W B w (.rw v e size n xs :: F)) : xs.length = n * size := h.own.1
end

/-- Two blocks of pieces are two. -/
theorem Holds.ne {x y : Ent} (h : Holds W B w (x :: F)) (hy : y ∈ F) {i j : Nat} (hi : x.key = some i) (hj : y.key = some j) : i ≠ j := by
  rintro rfl
  exact h.apart hy hj hi

theorem Holds.st_rw_ne {b g n cap size n' : Nat} {cs xs : List Value} {e e' : TypeId} (h : Holds W B w (.st b cs e :: .rw (.slice (some ⟨g, 0, none⟩) n cap) e' size n' xs :: F)) : b ≠ g :=
  h.ne (y := .rw (.slice (some ⟨g, 0, none⟩) n cap) e' size n' xs) (by simp) rfl rfl
theorem Holds.st_st_ne {b b' : Nat} {cs cs' : List Value} {e e' : TypeId} (h : Holds W B w (.st b cs e :: .st b' cs' e' :: F)) : b ≠ b' :=
  h.ne (y := .st b' cs' e') (by simp) rfl rfl

/-! Turning the list. -/
section
variable {x0 x1 x2 x3 x4 x5 x6 x7 : Ent}
theorem Holds.up1 (h : Holds W B w (x0 :: x1 :: F)) : Holds W B w (x1 :: x0 :: F) := h.perm (List.Perm.swap ..)
theorem perm2 : (x0 :: x1 :: x2 :: F).Perm (x2 :: x0 :: x1 :: F) := (List.Perm.cons _ (List.Perm.swap ..)).trans (List.Perm.swap ..)
theorem perm3 : (x0 :: x1 :: x2 :: x3 :: F).Perm (x3 :: x0 :: x1 :: x2 :: F) := (List.Perm.cons _ perm2).trans (List.Perm.swap ..)
theorem perm4 : (x0 :: x1 :: x2 :: x3 :: x4 :: F).Perm (x4 :: x0 :: x1 :: x2 :: x3 :: F) := (List.Perm.cons _ perm3).trans (List.Perm.swap ..)
theorem perm5 : (x0 :: x1 :: x2 :: x3 :: x4 :: x5 :: F).Perm (x5 :: x0 :: x1 :: x2 :: x3 :: x4 :: F) := (List.Perm.cons _ perm4).trans (List.Perm.swap ..)
theorem perm6 : (x0 :: x1 :: x2 :: x3 :: x4 :: x5 :: x6 :: F).Perm (x6 :: x0 :: x1 :: x2 :: x3 :: x4 :: x5 :: F) := (List.Perm.cons _ perm5).trans (List.Perm.swap ..)
theorem perm7 : (x0 :: x1 :: x2 :: x3 :: x4 :: x5 :: x6 :: x7 :: F).Perm (x7 :: x0 :: x1 :: x2 :: x3 :: x4 :: x5 :: x6 :: F) := (List.Perm.cons _ perm6).trans (List.Perm.swap ..)
theorem Holds.up2 (h : Holds W B w (x0 :: x1 :: x2 :: F)) : Holds W B w (x2 :: x0 :: x1 :: F) := h.perm perm2
theorem Holds.up3 (h : Holds W B w (x0 :: x1 :: x2 :: x3 :: F)) : Holds W B w (x3 :: x0 :: x1 :: x2 :: F) := h.perm perm3
theorem Holds.up4 (h : Holds W B w (x0 :: x1 :: x2 :: x3 :: x4 :: F)) : Holds W B w (x4 :: x0 :: x1 :: x2 :: x3 :: F) := h.perm perm4
theorem Holds.up5 (h : Holds W B w (x0 :: x1 :: x2 :: x3 :: x4 :: x5 :: F)) : Holds W B w (x5 :: x0 :: x1 :: x2 :: x3 :: x4 :: F) := h.perm perm5
theorem Holds.up6 (h : Holds W B w (x0 :: x1 :: x2 :: x3 :: x4 :: x5 :: x6 :: F)) : Holds W B w (x6 :: x0 :: x1 :: x2 :: x3 :: x4 :: x5 :: F) := h.perm perm6
theorem Holds.up7 (h : Holds W B w (x0 :: x1 :: x2 :: x3 :: x4 :: x5 :: x6 :: x7 :: F)) : Holds W B w (x7 :: x0 :: x1 :: x2 :: x3 :: x4 :: x5 :: x6 :: F) := h.perm perm7
end

/-- A literal row is made. -/
theorem Holds.mkrow {H : List Ent} (h : Holds W B w H) (cs : List Value) (e : TypeId) (size n : Nat) (hl : cs.length = n * size) (hn : n ≤ maxLen) :
    Holds W B (w.alloc (.cells cs.toArray e)) (.rw (.slice (some ⟨w.heap.size, 0, none⟩) n n) e size n cs :: H) :=
  (h.alloc' _).push (by have := World.ownsRow_lit (base := B) (e := e) (size := size) w cs.toArray n h.size hn (by simpa using hl); simpa [Ent.ok] using this) fun k hk y hy hyk => by
    simp only [Ent.key, Value.ownBlock, Option.some.injEq] at hk
    subst hk
    have := ((h.each y hy).lt hyk).2
    omega

/-! ### A slice that is read, wherever it lies -/
def Rd (w : World) (v : Value) (n : Nat) (cs : List Value) : Prop :=
  (v = .slice none 0 0 ∧ n = 0 ∧ cs = []) ∨ ∃ ad c, v = .slice (some ad) n c ∧ n ≤ c ∧ c ≤ maxLen ∧ ∀ j u, cs[j]? = some u → w.cell? (ad.add j) = some u

theorem Rd.of_own {v : Value} {e : TypeId} {size n : Nat} {cs : List Value} (h : w.ownsRow B e size v n cs) : Rd w v n cs := by
  rcases h.2 with ⟨rfl, rfl⟩ | ⟨g, cap, cur, rfl, hB, hg, hc, hm, rest⟩
  · exact .inl ⟨rfl, rfl, List.eq_nil_of_length_eq_zero (by simpa using h.1)⟩
  · exact .inr ⟨⟨g, 0, none⟩, cap, rfl, hc, hm, h.cells (g := g) rfl⟩

theorem Holds.rd {v : Value} {e : TypeId} {size n : Nat} {cs : List Value} (h : Holds W B w (.rw v e size n cs :: F)) : Rd w v n cs := Rd.of_own h.own

theorem Rd.kept {v : Value} {n : Nat} {cs : List Value} (h : Rd w v n cs) (hb : ∀ a u, w.cell? a = some u → w'.cell? a = some u) : Rd w' v n cs := by
  rcases h with h | ⟨ad, c, hv, hc, hm, hr⟩
  · exact .inl h
  · exact .inr ⟨ad, c, hv, hc, hm, fun j u hu => hb _ _ (hr j u hu)⟩

theorem Rd.alloc {v : Value} {n : Nat} {cs : List Value} (h : Rd w v n cs) (o : Obj) : Rd (w.alloc o) v n cs :=
  h.kept fun a u hu => by rw [World.cell?_alloc_lt _ _ _ (World.block_lt_of_cell? w a hu)]; exact hu
theorem Rd.drewN {v : Value} {n : Nat} {cs : List Value} (h : Rd w v n cs) (k : Nat) : Rd (w.drewN k) v n cs := h.kept fun a u hu => hu
theorem Rd.drew {v : Value} {n : Nat} {cs : List Value} (h : Rd w v n cs) : Rd w.drew v n cs := h.kept fun a u hu => hu
/-- A slice that came in, in a later world. -/
theorem Rd.below {v : Value} {n : Nat} {cs : List Value} (h : Rd W v n cs) (hb : Below W.heap.size W w) : Rd w v n cs :=
  h.kept fun a u hu => (hb.cell (p := a) (World.block_lt_of_cell? W a hu)).trans hu

end Go.Proofs.Ytpnnalkihcemhaa.Mem
