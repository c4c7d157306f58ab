/- An entity put on a base, by the program: the fields. -/
import Derived.Test.YtfcncmhcmbghpaaEForm
import Derived.Test.YtfcncmhcmbghpaaSmall
import Derived.Test.YtfcncmhcmbghpaaStep
import Derived.Deep.Cut
import Derived.Deep.RegionHeld3
set_option linter.unusedVariables false
set_option linter.unusedSimpArgs false
namespace Go.Proofs.Ytfcncmhcmbghpaa.Ents
open Go.Sort Go.RowKit Go.Proofs.Ytfcncmhcmbghpaa.Mem Go.Proofs.Ytfcncmhcmbghpaa.Open Go.Proofs.Ytfcncmhcmbghpaa.Num Go.Proofs.Ytfcncmhcmbghpaa.Step Go.Proofs.Ytfcncmhcmbghpaa.Wr Go.Proofs.Ytfcncmhcmbghpaa.Bits

theorem w64r (x : Int) : -9223372036854775808 ≤ wrap64 x ∧ wrap64 x ≤ 9223372036854775807 := by unfold wrap64; omega
def fi (e : Enty) (i : Nat) : Int := [e.x, e.y, e.vx, e.vy, e.hp, e.wt].getD i 0
def maskB (bs e : Enty) (i : Nat) : List Bool := bitsOf (if fi bs i = fi e i then 0 else 1) 1
def diffB (bs e : Enty) (i : Nat) : List Bool := if fi bs i = fi e i then [] else smallB (zig (wrap64 (fi e i - fi bs i))).toNat
def putB (bs e : Enty) : List Bool := (List.range 6).flatMap (maskB bs e) ++ (List.range 6).flatMap (diffB bs e)
theorem fs_get (e : Enty) (k : Nat) (hk : k < 6) : ([.int .i64 e.x, .int .i64 e.y, .int .i64 e.vx, .int .i64 e.vy, .int .i64 e.hp, .int .i64 e.wt] : List Value)[k]? = some (.int .i64 (fi e k)) := by
  match k, hk with
  | 0, _ => rfl
  | 1, _ => rfl
  | 2, _ => rfl
  | 3, _ => rfl
  | 4, _ => rfl
  | 5, _ => rfl
theorem range_flat {α : Type} (f : Nat → List α) (k : Nat) : (List.range (k + 1)).flatMap f = (List.range k).flatMap f ++ f k := by
  rw [List.range_succ, List.flatMap_append]; simp
theorem mask_len (bs e : Enty) (k : Nat) : ((List.range k).flatMap (maskB bs e)).length = k := by
  induction k with
  | zero => rfl
  | succ k ih => rw [range_flat, List.length_append, ih]; unfold maskB; rw [bitsOf_length]
theorem diff_len (bs e : Enty) (k : Nat) : ((List.range k).flatMap (diffB bs e)).length ≤ 80 * k := by
  induction k with
  | zero => simp
  | succ k ih =>
    rw [range_flat, List.length_append]
    have : (diffB bs e k).length ≤ 80 := by
      unfold diffB
      split
      · simp
      · have hw := w64r (fi e k - fi bs k)
        have hz := zig_range (wrap64 (fi e k - fi bs k)) hw.1 hw.2
        have h80 := smallB_80 (zig (wrap64 (fi e k - fi bs k))).toNat (by omega)
        omega
    omega
theorem HasW.belowed {W : World} {B : Nat} {w w' : World} {b : Nat} {e : TypeId} {L : List Bool} {F : List Ent} (h : HasW W B w b e L F) (hb : Below w.heap.size w w') : HasW W B w' b e L F := by
  obtain ⟨v, h⟩ := h
  exact ⟨v, Holds.belowed h hb⟩

theorem holds_at {W w : World} {B : Nat} {H : List Ent} {g : Nat} {cs : List Value} {e : TypeId} (h : Holds W B w H) (hg : g = w.heap.size) : Holds W B (w.alloc (.cells cs.toArray e)) (.st g cs e :: H) := by
  subst hg
  exact h.alloc cs e

theorem sz (w : World) (o : Obj) : (w.alloc o).heap.size = w.heap.size + 1 := by simp
theorem cell_alloc {w : World} {a : Addr} {u : Value} {o : Obj} (h : w.cell? a = some u) : (w.alloc o).cell? a = some u := by
  rw [World.cell?_alloc_lt _ _ _ (World.block_lt_of_cell? w a h)]; exact h

set_option maxHeartbeats 1000000 in
theorem efields (w : World) (e : Enty) : Calls Try.prog 42 #[.agg #[.int .i64 e.id, .int .i64 e.kind, .int .i64 e.x, .int .i64 e.y, .int .i64 e.vx, .int .i64 e.vy, .int .i64 e.hp, .int .i64 e.wt]] w fun e' w' => e' = .returned (.agg #[.int .i64 e.x, .int .i64 e.y, .int .i64 e.vx, .int .i64 e.vy, .int .i64 e.hp, .int .i64 e.wt]) ∧ w' = (w.alloc (.cells #[.int .i64 e.id, .int .i64 e.kind, .int .i64 e.x, .int .i64 e.y, .int .i64 e.vx, .int .i64 e.vy, .int .i64 e.hp, .int .i64 e.wt] 29)).alloc (.cells #[.int .i64 e.x, .int .i64 e.y, .int .i64 e.vx, .int .i64 e.vy, .int .i64 e.hp, .int .i64 e.wt] 66) := by
  have h0 := (Holds.start w).alloc [.int .i64 e.id, .int .i64 e.kind, .int .i64 e.x, .int .i64 e.y, .int .i64 e.vx, .int .i64 e.vy, .int .i64 e.hp, .int .i64 e.wt] 29
  have hs1 : (w.alloc (.cells #[.int .i64 e.id, .int .i64 e.kind, .int .i64 e.x, .int .i64 e.y, .int .i64 e.vx, .int .i64 e.vy, .int .i64 e.hp, .int .i64 e.wt] 29)).heap.size = w.heap.size + 1 := by simp
  have h1 := h0.alloc [.int .i64 e.x, .int .i64 e.y, .int .i64 e.vx, .int .i64 e.vy, .int .i64 e.hp, .int .i64 e.wt] 66
  rw [hs1] at h1
  have HH := Lib.hid h1
  clear h0 h1 hs1
  go_enter Try.func42, Try.ntmps42
  go_wp2_with fail
  refine bodyPost_ret (results_cell_row rfl _ _ _ _ _ _ _ rfl HH.out.head.2 Try.underlying66 rfl (by kernel_rfl)) rfl ?_
  exact ⟨rfl, rfl⟩

set_option maxHeartbeats 1000000 in
theorem eput_yes (W w : World) (b1 : Nat) (t : TypeId) (L : List Bool) (F : List Ent) (bs e : Enty) (hw : HasW W W.heap.size w b1 t L F) (hL : L.length + 1000 ≤ 1000000000) (hfe : EFrm e) (hid : bs.id = e.id) (hkd : bs.kind = e.kind) :
    Calls Try.prog 20 #[.pointer (some ⟨b1, 0, none⟩), .agg #[.int .i64 bs.id, .int .i64 bs.kind, .int .i64 bs.x, .int .i64 bs.y, .int .i64 bs.vx, .int .i64 bs.vy, .int .i64 bs.hp, .int .i64 bs.wt], .agg #[.int .i64 e.id, .int .i64 e.kind, .int .i64 e.x, .int .i64 e.y, .int .i64 e.vx, .int .i64 e.vy, .int .i64 e.hp, .int .i64 e.wt]] w fun e' w' => e' = .returned (.bool true) ∧ HasW W W.heap.size w' b1 t (L ++ putB bs e) F := by
  obtain ⟨v0, hH⟩ := hw
  have h1 := hH.alloc [.int .i64 bs.id, .int .i64 bs.kind, .int .i64 bs.x, .int .i64 bs.y, .int .i64 bs.vx, .int .i64 bs.vy, .int .i64 bs.hp, .int .i64 bs.wt] 29
  have h2 := h1.alloc [.int .i64 e.id, .int .i64 e.kind, .int .i64 e.x, .int .i64 e.y, .int .i64 e.vx, .int .i64 e.vy, .int .i64 e.hp, .int .i64 e.wt] 29
  have hs1 : (w.alloc (.cells #[.int .i64 bs.id, .int .i64 bs.kind, .int .i64 bs.x, .int .i64 bs.y, .int .i64 bs.vx, .int .i64 bs.vy, .int .i64 bs.hp, .int .i64 bs.wt] 29)).heap.size = w.heap.size + 1 := by simp
  rw [hs1] at h2
  have HX := Lib.hid h2
  have hf : ∀ w', Calls Try.prog 14 #[.agg #[.int .i64 e.id, .int .i64 e.kind, .int .i64 e.x, .int .i64 e.y, .int .i64 e.vx, .int .i64 e.vy, .int .i64 e.hp, .int .i64 e.wt]] w' fun e' w'' => e' = .returned (.bool true) ∧ Below w'.heap.size w' w'' := fun w' => by
    have := eformed w' e
    rw [decide_eq_true hfe] at this
    exact this
  have HF := Lib.hid hf
  have ti : (bs.id != e.id) = false := by rw [hid]; simp
  have tk : (bs.kind != e.kind) = false := by rw [hkd]; simp
  clear hH h1 h2 hs1 hf hid hkd
  go_enter Try.func20, Try.ntmps20
  go_wp2_with fail
  refine (HF.out _).mono ?_
  rintro e' w3 ⟨rfl, h3⟩
  have h4 := Holds.belowed HX.out h3
  have e0 := h4.cell 0 rfl
  have z0 := h4.up1.cell 0 rfl
  have e1 := h4.cell 1 rfl
  have z1 := h4.up1.cell 1 rfl
  have e2 := h4.cell 2 rfl
  have z2 := h4.up1.cell 2 rfl
  have e3 := h4.cell 3 rfl
  have z3 := h4.up1.cell 3 rfl
  have e4 := h4.cell 4 rfl
  have z4 := h4.up1.cell 4 rfl
  have e5 := h4.cell 5 rfl
  have z5 := h4.up1.cell 5 rfl
  have e6 := h4.cell 6 rfl
  have z6 := h4.up1.cell 6 rfl
  have e7 := h4.cell 7 rfl
  have z7 := h4.up1.cell 7 rfl
  have hlt1 : w.heap.size < w3.heap.size := h4.up1.lt
  have hlt2 : w.heap.size + 1 < w3.heap.size := h4.lt
  have H4 := Lib.hid h4
  have hS0 : w3.drew.cell? ⟨w.heap.size, 0, none⟩ = some (.int .i64 bs.id) ∧ w3.drew.cell? ⟨w.heap.size, 1, none⟩ = some (.int .i64 bs.kind) ∧ w3.drew.cell? ⟨w.heap.size, 2, none⟩ = some (.int .i64 bs.x) ∧ w3.drew.cell? ⟨w.heap.size, 3, none⟩ = some (.int .i64 bs.y) ∧ w3.drew.cell? ⟨w.heap.size, 4, none⟩ = some (.int .i64 bs.vx) ∧ w3.drew.cell? ⟨w.heap.size, 5, none⟩ = some (.int .i64 bs.vy) ∧ w3.drew.cell? ⟨w.heap.size, 6, none⟩ = some (.int .i64 bs.hp) ∧ w3.drew.cell? ⟨w.heap.size, 7, none⟩ = some (.int .i64 bs.wt) ∧ w3.drew.cell? ⟨w.heap.size + 1, 0, none⟩ = some (.int .i64 e.id) ∧ w3.drew.cell? ⟨w.heap.size + 1, 1, none⟩ = some (.int .i64 e.kind) ∧ w3.drew.cell? ⟨w.heap.size + 1, 2, none⟩ = some (.int .i64 e.x) ∧ w3.drew.cell? ⟨w.heap.size + 1, 3, none⟩ = some (.int .i64 e.y) ∧ w3.drew.cell? ⟨w.heap.size + 1, 4, none⟩ = some (.int .i64 e.vx) ∧ w3.drew.cell? ⟨w.heap.size + 1, 5, none⟩ = some (.int .i64 e.vy) ∧ w3.drew.cell? ⟨w.heap.size + 1, 6, none⟩ = some (.int .i64 e.hp) ∧ w3.drew.cell? ⟨w.heap.size + 1, 7, none⟩ = some (.int .i64 e.wt) := ⟨z0, z1, z2, z3, z4, z5, z6, z7, e0, e1, e2, e3, e4, e5, e6, e7⟩
  have hS1 : w3.cell? ⟨w.heap.size, 0, none⟩ = some (.int .i64 bs.id) ∧ w3.cell? ⟨w.heap.size, 1, none⟩ = some (.int .i64 bs.kind) ∧ w3.cell? ⟨w.heap.size, 2, none⟩ = some (.int .i64 bs.x) ∧ w3.cell? ⟨w.heap.size, 3, none⟩ = some (.int .i64 bs.y) ∧ w3.cell? ⟨w.heap.size, 4, none⟩ = some (.int .i64 bs.vx) ∧ w3.cell? ⟨w.heap.size, 5, none⟩ = some (.int .i64 bs.vy) ∧ w3.cell? ⟨w.heap.size, 6, none⟩ = some (.int .i64 bs.hp) ∧ w3.cell? ⟨w.heap.size, 7, none⟩ = some (.int .i64 bs.wt) ∧ w3.cell? ⟨w.heap.size + 1, 0, none⟩ = some (.int .i64 e.id) ∧ w3.cell? ⟨w.heap.size + 1, 1, none⟩ = some (.int .i64 e.kind) ∧ w3.cell? ⟨w.heap.size + 1, 2, none⟩ = some (.int .i64 e.x) ∧ w3.cell? ⟨w.heap.size + 1, 3, none⟩ = some (.int .i64 e.y) ∧ w3.cell? ⟨w.heap.size + 1, 4, none⟩ = some (.int .i64 e.vx) ∧ w3.cell? ⟨w.heap.size + 1, 5, none⟩ = some (.int .i64 e.vy) ∧ w3.cell? ⟨w.heap.size + 1, 6, none⟩ = some (.int .i64 e.hp) ∧ w3.cell? ⟨w.heap.size + 1, 7, none⟩ = some (.int .i64 e.wt) := ⟨z0, z1, z2, z3, z4, z5, z6, z7, e0, e1, e2, e3, e4, e5, e6, e7⟩
  have hkeepd : ∀ (w' : World), (w'.cell? ⟨w.heap.size, 0, none⟩ = some (.int .i64 bs.id) ∧ w'.cell? ⟨w.heap.size, 1, none⟩ = some (.int .i64 bs.kind) ∧ w'.cell? ⟨w.heap.size, 2, none⟩ = some (.int .i64 bs.x) ∧ w'.cell? ⟨w.heap.size, 3, none⟩ = some (.int .i64 bs.y) ∧ w'.cell? ⟨w.heap.size, 4, none⟩ = some (.int .i64 bs.vx) ∧ w'.cell? ⟨w.heap.size, 5, none⟩ = some (.int .i64 bs.vy) ∧ w'.cell? ⟨w.heap.size, 6, none⟩ = some (.int .i64 bs.hp) ∧ w'.cell? ⟨w.heap.size, 7, none⟩ = some (.int .i64 bs.wt) ∧ w'.cell? ⟨w.heap.size + 1, 0, none⟩ = some (.int .i64 e.id) ∧ w'.cell? ⟨w.heap.size + 1, 1, none⟩ = some (.int .i64 e.kind) ∧ w'.cell? ⟨w.heap.size + 1, 2, none⟩ = some (.int .i64 e.x) ∧ w'.cell? ⟨w.heap.size + 1, 3, none⟩ = some (.int .i64 e.y) ∧ w'.cell? ⟨w.heap.size + 1, 4, none⟩ = some (.int .i64 e.vx) ∧ w'.cell? ⟨w.heap.size + 1, 5, none⟩ = some (.int .i64 e.vy) ∧ w'.cell? ⟨w.heap.size + 1, 6, none⟩ = some (.int .i64 e.hp) ∧ w'.cell? ⟨w.heap.size + 1, 7, none⟩ = some (.int .i64 e.wt)) → ((w'.drew).cell? ⟨w.heap.size, 0, none⟩ = some (.int .i64 bs.id) ∧ (w'.drew).cell? ⟨w.heap.size, 1, none⟩ = some (.int .i64 bs.kind) ∧ (w'.drew).cell? ⟨w.heap.size, 2, none⟩ = some (.int .i64 bs.x) ∧ (w'.drew).cell? ⟨w.heap.size, 3, none⟩ = some (.int .i64 bs.y) ∧ (w'.drew).cell? ⟨w.heap.size, 4, none⟩ = some (.int .i64 bs.vx) ∧ (w'.drew).cell? ⟨w.heap.size, 5, none⟩ = some (.int .i64 bs.vy) ∧ (w'.drew).cell? ⟨w.heap.size, 6, none⟩ = some (.int .i64 bs.hp) ∧ (w'.drew).cell? ⟨w.heap.size, 7, none⟩ = some (.int .i64 bs.wt) ∧ (w'.drew).cell? ⟨w.heap.size + 1, 0, none⟩ = some (.int .i64 e.id) ∧ (w'.drew).cell? ⟨w.heap.size + 1, 1, none⟩ = some (.int .i64 e.kind) ∧ (w'.drew).cell? ⟨w.heap.size + 1, 2, none⟩ = some (.int .i64 e.x) ∧ (w'.drew).cell? ⟨w.heap.size + 1, 3, none⟩ = some (.int .i64 e.y) ∧ (w'.drew).cell? ⟨w.heap.size + 1, 4, none⟩ = some (.int .i64 e.vx) ∧ (w'.drew).cell? ⟨w.heap.size + 1, 5, none⟩ = some (.int .i64 e.vy) ∧ (w'.drew).cell? ⟨w.heap.size + 1, 6, none⟩ = some (.int .i64 e.hp) ∧ (w'.drew).cell? ⟨w.heap.size + 1, 7, none⟩ = some (.int .i64 e.wt)) := fun _ h => h
  have hkeep : ∀ (w' : World) (o : Obj), (w'.cell? ⟨w.heap.size, 0, none⟩ = some (.int .i64 bs.id) ∧ w'.cell? ⟨w.heap.size, 1, none⟩ = some (.int .i64 bs.kind) ∧ w'.cell? ⟨w.heap.size, 2, none⟩ = some (.int .i64 bs.x) ∧ w'.cell? ⟨w.heap.size, 3, none⟩ = some (.int .i64 bs.y) ∧ w'.cell? ⟨w.heap.size, 4, none⟩ = some (.int .i64 bs.vx) ∧ w'.cell? ⟨w.heap.size, 5, none⟩ = some (.int .i64 bs.vy) ∧ w'.cell? ⟨w.heap.size, 6, none⟩ = some (.int .i64 bs.hp) ∧ w'.cell? ⟨w.heap.size, 7, none⟩ = some (.int .i64 bs.wt) ∧ w'.cell? ⟨w.heap.size + 1, 0, none⟩ = some (.int .i64 e.id) ∧ w'.cell? ⟨w.heap.size + 1, 1, none⟩ = some (.int .i64 e.kind) ∧ w'.cell? ⟨w.heap.size + 1, 2, none⟩ = some (.int .i64 e.x) ∧ w'.cell? ⟨w.heap.size + 1, 3, none⟩ = some (.int .i64 e.y) ∧ w'.cell? ⟨w.heap.size + 1, 4, none⟩ = some (.int .i64 e.vx) ∧ w'.cell? ⟨w.heap.size + 1, 5, none⟩ = some (.int .i64 e.vy) ∧ w'.cell? ⟨w.heap.size + 1, 6, none⟩ = some (.int .i64 e.hp) ∧ w'.cell? ⟨w.heap.size + 1, 7, none⟩ = some (.int .i64 e.wt)) → ((w'.alloc o).cell? ⟨w.heap.size, 0, none⟩ = some (.int .i64 bs.id) ∧ (w'.alloc o).cell? ⟨w.heap.size, 1, none⟩ = some (.int .i64 bs.kind) ∧ (w'.alloc o).cell? ⟨w.heap.size, 2, none⟩ = some (.int .i64 bs.x) ∧ (w'.alloc o).cell? ⟨w.heap.size, 3, none⟩ = some (.int .i64 bs.y) ∧ (w'.alloc o).cell? ⟨w.heap.size, 4, none⟩ = some (.int .i64 bs.vx) ∧ (w'.alloc o).cell? ⟨w.heap.size, 5, none⟩ = some (.int .i64 bs.vy) ∧ (w'.alloc o).cell? ⟨w.heap.size, 6, none⟩ = some (.int .i64 bs.hp) ∧ (w'.alloc o).cell? ⟨w.heap.size, 7, none⟩ = some (.int .i64 bs.wt) ∧ (w'.alloc o).cell? ⟨w.heap.size + 1, 0, none⟩ = some (.int .i64 e.id) ∧ (w'.alloc o).cell? ⟨w.heap.size + 1, 1, none⟩ = some (.int .i64 e.kind) ∧ (w'.alloc o).cell? ⟨w.heap.size + 1, 2, none⟩ = some (.int .i64 e.x) ∧ (w'.alloc o).cell? ⟨w.heap.size + 1, 3, none⟩ = some (.int .i64 e.y) ∧ (w'.alloc o).cell? ⟨w.heap.size + 1, 4, none⟩ = some (.int .i64 e.vx) ∧ (w'.alloc o).cell? ⟨w.heap.size + 1, 5, none⟩ = some (.int .i64 e.vy) ∧ (w'.alloc o).cell? ⟨w.heap.size + 1, 6, none⟩ = some (.int .i64 e.hp) ∧ (w'.alloc o).cell? ⟨w.heap.size + 1, 7, none⟩ = some (.int .i64 e.wt)) := fun w' o h => by
    obtain ⟨h0, h1, h2, h3, h4, h5, h6, h7, h8, h9, h10, h11, h12, h13, h14, h15⟩ := h
    exact ⟨cell_alloc h0, cell_alloc h1, cell_alloc h2, cell_alloc h3, cell_alloc h4, cell_alloc h5, cell_alloc h6, cell_alloc h7, cell_alloc h8, cell_alloc h9, cell_alloc h10, cell_alloc h11, cell_alloc h12, cell_alloc h13, cell_alloc h14, cell_alloc h15⟩
  clear h4 h3
  go_wp2_with fail
  go_cut [7, 8] from 28 (fun t7 t8 wx => ∃ g7 g8, t7 = .pointer (some ⟨g7, 0, none⟩) ∧ t8 = .pointer (some ⟨g8, 0, none⟩) ∧ Holds W W.heap.size wx (.st g7 [.int .i64 bs.x, .int .i64 bs.y, .int .i64 bs.vx, .int .i64 bs.vy, .int .i64 bs.hp, .int .i64 bs.wt] 66 :: .st g8 [.int .i64 e.x, .int .i64 e.y, .int .i64 e.vx, .int .i64 e.vy, .int .i64 e.hp, .int .i64 e.wt] 66 :: .st b1 [v0, .int .i64 (L.length : Int)] t :: .rw v0 5 1 (nby L) (Go.Proofs.YtfcncmhcmbghpaaW.PrintWords.nums .u8 (pack L)) :: F))
  case first =>
    go_region_held3 (fun w' => w'.cell? ⟨w.heap.size, 0, none⟩ = some (.int .i64 bs.id) ∧ w'.cell? ⟨w.heap.size, 1, none⟩ = some (.int .i64 bs.kind) ∧ w'.cell? ⟨w.heap.size, 2, none⟩ = some (.int .i64 bs.x) ∧ w'.cell? ⟨w.heap.size, 3, none⟩ = some (.int .i64 bs.y) ∧ w'.cell? ⟨w.heap.size, 4, none⟩ = some (.int .i64 bs.vx) ∧ w'.cell? ⟨w.heap.size, 5, none⟩ = some (.int .i64 bs.vy) ∧ w'.cell? ⟨w.heap.size, 6, none⟩ = some (.int .i64 bs.hp) ∧ w'.cell? ⟨w.heap.size, 7, none⟩ = some (.int .i64 bs.wt) ∧ w'.cell? ⟨w.heap.size + 1, 0, none⟩ = some (.int .i64 e.id) ∧ w'.cell? ⟨w.heap.size + 1, 1, none⟩ = some (.int .i64 e.kind) ∧ w'.cell? ⟨w.heap.size + 1, 2, none⟩ = some (.int .i64 e.x) ∧ w'.cell? ⟨w.heap.size + 1, 3, none⟩ = some (.int .i64 e.y) ∧ w'.cell? ⟨w.heap.size + 1, 4, none⟩ = some (.int .i64 e.vx) ∧ w'.cell? ⟨w.heap.size + 1, 5, none⟩ = some (.int .i64 e.vy) ∧ w'.cell? ⟨w.heap.size + 1, 6, none⟩ = some (.int .i64 e.hp) ∧ w'.cell? ⟨w.heap.size + 1, 7, none⟩ = some (.int .i64 e.wt))
        (((try dsimp only); (repeat (first | with_reducible refine hkeepd _ ?_ | with_reducible refine hkeep _ _ ?_)); with_reducible exact hS1))
        (first | (go_at_call 42; with_reducible refine (efields _ bs).mono ?_; rintro e' wn ⟨rfl, rfl⟩) | (go_at_call 42; with_reducible refine (efields _ e).mono ?_; rintro e' wn ⟨rfl, rfl⟩))
    all_goals
      go_wp2_with fail
      go_meet
      have H5 := H4.out.tail.tail
      clear hS0 hS1 hkeep hkeepd HX H4
      refine ⟨_, _, rfl, rfl, ?_⟩
      repeat (first | with_reducible exact H5 | with_reducible refine Holds.drew ?_ | (refine holds_at ?_ ?_; rotate_left; focus (simp only [sz]; done)) | (refine Holds.up1 (holds_at ?_ ?_); rotate_left; focus (simp only [sz]; done)) | with_reducible refine Holds.alloc' ?_ _)
  case rest =>
    obtain ⟨g7, g8, rfl, rfl, hc⟩ := hcut
    have H6 : Hid (HasW W W.heap.size wc b1 t L (.st g7 [.int .i64 bs.x, .int .i64 bs.y, .int .i64 bs.vx, .int .i64 bs.vy, .int .i64 bs.hp, .int .i64 bs.wt] 66 :: .st g8 [.int .i64 e.x, .int .i64 e.y, .int .i64 e.vx, .int .i64 e.vy, .int .i64 e.hp, .int .i64 e.wt] 66 :: F)) := ⟨v0, hc.up3.up3⟩
    clear hc HF e0 e1 e2 e3 e4 e5 e6 e7 z0 z1 z2 z3 z4 z5 z6 z7 H4 HX hlt1 hlt2 hS0 hS1 hkeep hkeepd ti tk
    go_wp2_with fail
    go_loopw [32] (fun i wr => ∃ k : Nat, k ≤ 6 ∧ i = .int .i64 k ∧ HasW W W.heap.size wr b1 t (L ++ (List.range k).flatMap (maskB bs e)) (.st g7 [.int .i64 bs.x, .int .i64 bs.y, .int .i64 bs.vx, .int .i64 bs.vy, .int .i64 bs.hp, .int .i64 bs.wt] 66 :: .st g8 [.int .i64 e.x, .int .i64 e.y, .int .i64 e.vx, .int .i64 e.vy, .int .i64 e.hp, .int .i64 e.wt] 66 :: F))
      (fun i _ => 6 - (intOf i).toNat)
    case atStart => exact ⟨0, by decide, rfl, by simpa using H6.out⟩
    case round =>
      obtain ⟨k, hk, rfl, hH⟩ := hrel
      clear H6
      have hml := mask_len bs e k
      by_cases hkn : k < 6
      · have HTS := Lib.hid (succ_len k (show k < maxLen by unfold maxLen; omega))
        have k0 : (0 : Int) ≤ (k : Int) := by omega
        have k1 : (k : Int) < 6 := by omega
        have H4 := Lib.hid hH
        obtain ⟨v1, hH⟩ := hH
        have E7 := cell_regrown (hH.up2.cell k (fs_get bs k hkn))
        have E8 := cell_regrown (hH.up3.cell k (fs_get e k hkn))
        clear hH
        by_cases hq : fi bs k = fi e k
        · have tq : (fi bs k != fi e k) = false := by rw [hq]; simp
          have HQ := Lib.hid hq
          clear hq
          go_wp2_with fail
          refine wp_region_quiet_below (by kernel_rfl) (by kernel_rfl) ?_
          repeat (go_big_quiet_step (fail))
          refine wpQuiet_nil ?_
          intro _ hw'
          obtain ⟨⟨dq, osq⟩, hw''⟩ := hw'
          subst hw''
          have hbx := below_regrown wr dq osq
          clear E7 E8
          generalize grow (redrawn wr dq) osq = w4 at *
          have h4 := HasW.belowed H4.out hbx
          have hp := put W W.heap.size w4 b1 t (L ++ (List.range k).flatMap (maskB bs e)) _ 0 1 h4 (by decide) (by decide) (by decide) (by decide) (by rw [List.length_append]; omega)
          have HP := Lib.hid hp
          clear hp h4 hbx
          go_wp2_with fail
          refine HP.out.mono ?_
          rintro e' w5 ⟨rfl, h5⟩
          have H5 := Lib.hid h5
          clear h5 HP
          go_wp2_with fail
          try rw [HTS.out]
          refine ⟨⟨k + 1, by omega, cast_succ k, ?_⟩, succ_less hkn⟩
          rw [range_flat, ← List.append_assoc]
          have h6 := H5.out
          rw [show maskB bs e k = bitsOf 0 1 by unfold maskB; rw [if_pos HQ.out]]
          exact h6
        · have tq : (fi bs k != fi e k) = true := by simpa using hq
          have HQ := Lib.hid hq
          clear hq
          go_wp2_with fail
          refine wp_region_quiet_below (by kernel_rfl) (by kernel_rfl) ?_
          repeat (go_big_quiet_step (fail))
          refine wpQuiet_nil ?_
          intro _ hw'
          obtain ⟨⟨dq, osq⟩, hw''⟩ := hw'
          subst hw''
          have hbx := below_regrown wr dq osq
          clear E7 E8
          generalize grow (redrawn wr dq) osq = w4 at *
          have h4 := HasW.belowed H4.out hbx
          have hp := put W W.heap.size w4 b1 t (L ++ (List.range k).flatMap (maskB bs e)) _ 1 1 h4 (by decide) (by decide) (by decide) (by decide) (by rw [List.length_append]; omega)
          have HP := Lib.hid hp
          clear hp h4 hbx
          go_wp2_with fail
          refine HP.out.mono ?_
          rintro e' w5 ⟨rfl, h5⟩
          have H5 := Lib.hid h5
          clear h5 HP
          go_wp2_with fail
          try rw [HTS.out]
          refine ⟨⟨k + 1, by omega, cast_succ k, ?_⟩, succ_less hkn⟩
          rw [range_flat, ← List.append_assoc]
          have h6 := H5.out
          rw [show maskB bs e k = bitsOf 1 1 by unfold maskB; rw [if_neg HQ.out]]
          exact h6
      · obtain rfl : k = 6 := by omega
        have H7 := Lib.hid hH
        clear hH
        rw [show ((6 : Nat) : Int) = 6 from rfl]
        go_wp2_with fail
        go_loopw [47] (fun i wr => ∃ k : Nat, k ≤ 6 ∧ i = .int .i64 k ∧ HasW W W.heap.size wr b1 t ((L ++ (List.range 6).flatMap (maskB bs e)) ++ (List.range k).flatMap (diffB bs e)) (.st g7 [.int .i64 bs.x, .int .i64 bs.y, .int .i64 bs.vx, .int .i64 bs.vy, .int .i64 bs.hp, .int .i64 bs.wt] 66 :: .st g8 [.int .i64 e.x, .int .i64 e.y, .int .i64 e.vx, .int .i64 e.vy, .int .i64 e.hp, .int .i64 e.wt] 66 :: F))
          (fun i _ => 6 - (intOf i).toNat)
        case atStart => exact ⟨0, by decide, rfl, by simpa using H7.out⟩
        case round =>
          obtain ⟨k, hk, rfl, hH⟩ := hrel
          clear H7
          have hdl := diff_len bs e k
          by_cases hkn : k < 6
          · have HTS := Lib.hid (succ_len k (show k < maxLen by unfold maxLen; omega))
            have k0 : (0 : Int) ≤ (k : Int) := by omega
            have k1 : (k : Int) < 6 := by omega
            have H4 := Lib.hid hH
            obtain ⟨v1, hH⟩ := hH
            have E7 := cell_regrown (hH.up2.cell k (fs_get bs k hkn))
            have E8 := cell_regrown (hH.up3.cell k (fs_get e k hkn))
            clear hH
            by_cases hq : fi bs k = fi e k
            · have tq : (fi bs k != fi e k) = false := by rw [hq]; simp
              have HQ := Lib.hid hq
              clear hq
              go_wp2_with fail
              refine wp_region_quiet_below (by kernel_rfl) (by kernel_rfl) ?_
              repeat (go_big_quiet_step (fail))
              refine wpQuiet_nil ?_
              intro _ hw'
              obtain ⟨⟨dq, osq⟩, hw''⟩ := hw'
              subst hw''
              have hbx := below_regrown wr dq osq
              clear E7 E8
              generalize grow (redrawn wr dq) osq = w4 at *
              have h4 := HasW.belowed H4.out hbx
              have H5 := Lib.hid h4
              clear h4 hbx
              go_wp2_with fail
              try rw [HTS.out]
              refine ⟨⟨k + 1, by omega, cast_succ k, ?_⟩, succ_less hkn⟩
              rw [range_flat (diffB bs e) k, show diffB bs e k = [] by unfold diffB; rw [if_pos HQ.out], List.append_nil]
              exact H5.out
            · have tq : (fi bs k != fi e k) = true := by simpa using hq
              have HQ := Lib.hid hq
              clear hq
              go_wp2_with fail
              refine wp_region_quiet_below (by kernel_rfl) (by kernel_rfl) ?_
              repeat (go_big_quiet_step (fail))
              refine wpQuiet_nil ?_
              intro _ hw'
              obtain ⟨⟨dq, osq⟩, hw''⟩ := hw'
              subst hw''
              have hbx := below_regrown wr dq osq
              clear E7 E8
              generalize grow (redrawn wr dq) osq = w4 at *
              have h4 := HasW.belowed H4.out hbx
              have H5 := Lib.hid h4
              obtain ⟨v2, h5⟩ := h4
              have e7 := h5.up2.cell k (fs_get bs k hkn)
              have e8 := h5.up3.cell k (fs_get e k hkn)
              have hwx := w64r (fi e k - fi bs k)
              have hp := small W W.heap.size w4.drew b1 t ((L ++ (List.range 6).flatMap (maskB bs e)) ++ (List.range k).flatMap (diffB bs e)) _ (wrap64 (fi e k - fi bs k)) ⟨v2, h5.drew⟩ hwx.1 hwx.2 (by rw [List.length_append, List.length_append]; omega)
              have HP := Lib.hid hp
              clear hp h5 hbx hwx
              go_wp2_with fail
              go_still_tail 8, (by kernel_rfl)
              go_wp2_with fail
              refine HP.out.mono ?_
              rintro e' w5 ⟨rfl, h6⟩
              have H6 := Lib.hid h6
              clear h6 HP e7 e8
              go_wp2_with fail
              try rw [HTS.out]
              refine ⟨⟨k + 1, by omega, cast_succ k, ?_⟩, succ_less hkn⟩
              rw [range_flat (diffB bs e) k, ← List.append_assoc, show diffB bs e k = smallB (zig (wrap64 (fi e k - fi bs k))).toNat by unfold diffB; rw [if_neg HQ.out]]
              exact H6.out
          · obtain rfl : k = 6 := by omega
            obtain ⟨v9, h9⟩ := hH
            have H9 := Lib.hid h9
            clear h9
            go_wp2_with fail
            go_ret
            refine ⟨rfl, v9, ?_⟩
            have h10 := H9.out.up3.up3.tail.tail
            rw [show L ++ putB bs e = (L ++ (List.range 6).flatMap (maskB bs e)) ++ (List.range 6).flatMap (diffB bs e) by unfold putB; rw [List.append_assoc]]
            exact h10

set_option maxHeartbeats 1000000 in
theorem eput_no (W w : World) (b1 : Nat) (t : TypeId) (L : List Bool) (F : List Ent) (bs e : Enty) (hw : HasW W W.heap.size w b1 t L F) (hno : ¬ (EFrm e ∧ bs.id = e.id ∧ bs.kind = e.kind)) :
    Calls Try.prog 20 #[.pointer (some ⟨b1, 0, none⟩), .agg #[.int .i64 bs.id, .int .i64 bs.kind, .int .i64 bs.x, .int .i64 bs.y, .int .i64 bs.vx, .int .i64 bs.vy, .int .i64 bs.hp, .int .i64 bs.wt], .agg #[.int .i64 e.id, .int .i64 e.kind, .int .i64 e.x, .int .i64 e.y, .int .i64 e.vx, .int .i64 e.vy, .int .i64 e.hp, .int .i64 e.wt]] w fun e' w' => e' = .returned (.bool false) ∧ HasW W W.heap.size w' b1 t L F := by
  obtain ⟨v0, hH⟩ := hw
  have h1 := hH.alloc [.int .i64 bs.id, .int .i64 bs.kind, .int .i64 bs.x, .int .i64 bs.y, .int .i64 bs.vx, .int .i64 bs.vy, .int .i64 bs.hp, .int .i64 bs.wt] 29
  have h2 := h1.alloc [.int .i64 e.id, .int .i64 e.kind, .int .i64 e.x, .int .i64 e.y, .int .i64 e.vx, .int .i64 e.vy, .int .i64 e.hp, .int .i64 e.wt] 29
  have hs1 : (w.alloc (.cells #[.int .i64 bs.id, .int .i64 bs.kind, .int .i64 bs.x, .int .i64 bs.y, .int .i64 bs.vx, .int .i64 bs.vy, .int .i64 bs.hp, .int .i64 bs.wt] 29)).heap.size = w.heap.size + 1 := by simp
  rw [hs1] at h2
  have HX := Lib.hid h2
  by_cases hfe : EFrm e
  · have hf : ∀ w', Calls Try.prog 14 #[.agg #[.int .i64 e.id, .int .i64 e.kind, .int .i64 e.x, .int .i64 e.y, .int .i64 e.vx, .int .i64 e.vy, .int .i64 e.hp, .int .i64 e.wt]] w' fun e' w'' => e' = .returned (.bool true) ∧ Below w'.heap.size w' w'' := fun w' => by
      have := eformed w' e
      rw [decide_eq_true hfe] at this
      exact this
    have HF := Lib.hid hf
    by_cases hid : bs.id = e.id
    · have hkd : bs.kind ≠ e.kind := fun h => hno ⟨hfe, hid, h⟩
      have ti : (bs.id != e.id) = false := by rw [hid]; simp
      have tk : (bs.kind != e.kind) = true := by simpa using hkd
      clear hH h1 h2 hs1 hf hid hkd hno hfe
      go_enter Try.func20, Try.ntmps20
      go_wp2_with fail
      refine (HF.out _).mono ?_
      rintro e' w3 ⟨rfl, h3⟩
      have h4 := Holds.belowed HX.out h3
      have e0 := h4.cell 0 rfl
      have e1 := h4.cell 1 rfl
      have z0 := h4.up1.cell 0 rfl
      have z1 := h4.up1.cell 1 rfl
      have H4 := Lib.hid h4
      clear h4 h3
      go_wp2_with fail
      go_ret
      exact ⟨rfl, v0, H4.out.tail.tail⟩
    · have ti : (bs.id != e.id) = true := by simpa using hid
      clear hH h1 h2 hs1 hf hid hno hfe
      go_enter Try.func20, Try.ntmps20
      go_wp2_with fail
      refine (HF.out _).mono ?_
      rintro e' w3 ⟨rfl, h3⟩
      have h4 := Holds.belowed HX.out h3
      have e0 := h4.cell 0 rfl
      have z0 := h4.up1.cell 0 rfl
      have H4 := Lib.hid h4
      clear h4 h3
      go_wp2_with fail
      go_ret
      exact ⟨rfl, v0, H4.out.tail.tail⟩
  · have hf : ∀ w', Calls Try.prog 14 #[.agg #[.int .i64 e.id, .int .i64 e.kind, .int .i64 e.x, .int .i64 e.y, .int .i64 e.vx, .int .i64 e.vy, .int .i64 e.hp, .int .i64 e.wt]] w' fun e' w'' => e' = .returned (.bool false) ∧ Below w'.heap.size w' w'' := fun w' => by
      have := eformed w' e
      rw [decide_eq_false hfe] at this
      exact this
    have HF := Lib.hid hf
    clear hH h1 h2 hs1 hf hno hfe
    go_enter Try.func20, Try.ntmps20
    go_wp2_with fail
    refine (HF.out _).mono ?_
    rintro e' w3 ⟨rfl, h3⟩
    have h4 := Holds.belowed HX.out h3
    have H4 := Lib.hid h4
    clear h4 h3
    go_wp2_with fail
    go_ret
    exact ⟨rfl, v0, H4.out.tail.tail⟩

noncomputable def okB (bs e : Enty) : Bool := decide (EFrm e ∧ bs.id = e.id ∧ bs.kind = e.kind)
theorem eput (W w : World) (b1 : Nat) (t : TypeId) (L : List Bool) (F : List Ent) (bs e : Enty) (hw : HasW W W.heap.size w b1 t L F) (hL : L.length + 1000 ≤ 1000000000) :
    Calls Try.prog 20 #[.pointer (some ⟨b1, 0, none⟩), .agg #[.int .i64 bs.id, .int .i64 bs.kind, .int .i64 bs.x, .int .i64 bs.y, .int .i64 bs.vx, .int .i64 bs.vy, .int .i64 bs.hp, .int .i64 bs.wt], .agg #[.int .i64 e.id, .int .i64 e.kind, .int .i64 e.x, .int .i64 e.y, .int .i64 e.vx, .int .i64 e.vy, .int .i64 e.hp, .int .i64 e.wt]] w fun e' w' => e' = .returned (.bool (okB bs e)) ∧ HasW W W.heap.size w' b1 t (L ++ if okB bs e = true then putB bs e else []) F := by
  by_cases h : EFrm e ∧ bs.id = e.id ∧ bs.kind = e.kind
  · have h1 : okB bs e = true := decide_eq_true h
    rw [h1, if_pos rfl]
    exact eput_yes W w b1 t L F bs e hw hL h.1 h.2.1 h.2.2
  · have h1 : okB bs e = false := decide_eq_false h
    rw [h1, if_neg (by decide), List.append_nil]
    exact eput_no W w b1 t L F bs e hw h

end Go.Proofs.Ytfcncmhcmbghpaa.Ents
