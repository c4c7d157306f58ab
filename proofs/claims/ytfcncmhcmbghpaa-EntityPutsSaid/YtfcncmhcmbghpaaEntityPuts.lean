/- The law EntityPuts: on every base each formed entity has its bits, each other one none. For all entities; no condition. Here: the walk. -/
import Derived.Test.YtfcncmhcmbghpaaERPut
import Derived.Test.YtfcncmhcmbghpaaAwake10
import Derived.Test.YtfcncmhcmbghpaaEntOpen
import Derived.Test.YtfcncmhcmbghpaaSame
import Derived.Deep.RegionHeld3
set_option linter.unusedVariables false
set_option linter.unusedSimpArgs false
namespace Go.Proofs.Ytfcncmhcmbghpaa.Ents
open Go.Sort Go.RowKit Go.Proofs.Ytfcncmhcmbghpaa.Mem Go.Proofs.Ytfcncmhcmbghpaa.Open Go.Proofs.Ytfcncmhcmbghpaa.Num Go.Proofs.Ytfcncmhcmbghpaa.Step Go.Proofs.Ytfcncmhcmbghpaa.Wr Go.Proofs.Ytfcncmhcmbghpaa.Bits Go.Proofs.YtfcncmhcmbghpaaW.PrintWords

def YS (w wx : World) (nb ne b1 b2 : Nat) (bs e : Enty) (L M : List Bool) (v2 : Value) (F : List Ent) : Prop :=
  ∃ v1, Holds w w.heap.size wx (.st b1 [v1, .int .i64 (L.length : Int)] 37 :: .rw v1 5 1 (nby L) (nums .u8 (pack L)) ::
    .st b2 [v2] 44 :: .rw v2 4 1 M.length (bools M) :: .st ne [.int .i64 e.id, .int .i64 e.kind, .int .i64 e.x, .int .i64 e.y, .int .i64 e.vx, .int .i64 e.vy, .int .i64 e.hp, .int .i64 e.wt] 29 :: .st nb [.int .i64 bs.id, .int .i64 bs.kind, .int .i64 bs.x, .int .i64 bs.y, .int .i64 bs.vx, .int .i64 bs.vy, .int .i64 bs.hp, .int .i64 bs.wt] 29 :: F)

section
variable {w wx : World} {nb ne b1 b2 : Nat} {bs e : Enty} {L M : List Bool} {v2 : Value} {F : List Ent}

theorem YS.below (h : YS w wx nb ne b1 b2 bs e L M v2 F) : Below w.heap.size w wx := by obtain ⟨_, h⟩ := h; exact h.below
theorem YS.then (h : YS w wx nb ne b1 b2 bs e L M v2 F) {w' : World} (hb : Below wx.heap.size wx w') : YS w w' nb ne b1 b2 bs e L M v2 F := by
  obtain ⟨v1, h⟩ := h
  exact ⟨v1, Holds.belowed h hb⟩
theorem YS.drew (h : YS w wx nb ne b1 b2 bs e L M v2 F) : YS w wx.drew nb ne b1 b2 bs e L M v2 F := by
  obtain ⟨v1, h⟩ := h
  exact ⟨v1, h.drew⟩
theorem YS.cellE (h : YS w wx nb ne b1 b2 bs e L M v2 F) (j : Nat) {u : Value} (hu : ([.int .i64 e.id, .int .i64 e.kind, .int .i64 e.x, .int .i64 e.y, .int .i64 e.vx, .int .i64 e.vy, .int .i64 e.hp, .int .i64 e.wt] : List Value)[j]? = some u) : wx.cell? ⟨ne, j, none⟩ = some u := by
  obtain ⟨v1, h⟩ := h
  exact Holds.cell h.up4 j hu
theorem YS.cellB (h : YS w wx nb ne b1 b2 bs e L M v2 F) (j : Nat) {u : Value} (hu : ([.int .i64 bs.id, .int .i64 bs.kind, .int .i64 bs.x, .int .i64 bs.y, .int .i64 bs.vx, .int .i64 bs.vy, .int .i64 bs.hp, .int .i64 bs.wt] : List Value)[j]? = some u) : wx.cell? ⟨nb, j, none⟩ = some u := by
  obtain ⟨v1, h⟩ := h
  exact Holds.cell h.up5 j hu
theorem YS.cellV (h : YS w wx nb ne b1 b2 bs e L M v2 F) : wx.cell? ⟨b2, 0, none⟩ = some v2 := by
  obtain ⟨v1, h⟩ := h
  exact Holds.cell h.up2 0 rfl

theorem ys_put (h : YS w wx nb ne b1 b2 bs e [] M v2 F) : Calls Try.prog 20 #[.pointer (some ⟨b1, 0, none⟩), .agg #[.int .i64 bs.id, .int .i64 bs.kind, .int .i64 bs.x, .int .i64 bs.y, .int .i64 bs.vx, .int .i64 bs.vy, .int .i64 bs.hp, .int .i64 bs.wt], .agg #[.int .i64 e.id, .int .i64 e.kind, .int .i64 e.x, .int .i64 e.y, .int .i64 e.vx, .int .i64 e.vy, .int .i64 e.hp, .int .i64 e.wt]] wx fun x w' => x = .returned (.bool (okB bs e)) ∧ YS w w' nb ne b1 b2 bs e ([] ++ if okB bs e = true then putB bs e else []) M v2 F := by
  obtain ⟨v1, h⟩ := h
  exact eput w wx b1 _ [] _ bs e ⟨v1, h⟩ (by decide)
theorem ys_rput (h : YS w wx nb ne b1 b2 bs e L [] v2 F) : Calls Try.prog 22 #[.pointer (some ⟨b2, 0, none⟩), .agg #[.int .i64 bs.id, .int .i64 bs.kind, .int .i64 bs.x, .int .i64 bs.y, .int .i64 bs.vx, .int .i64 bs.vy, .int .i64 bs.hp, .int .i64 bs.wt], .agg #[.int .i64 e.id, .int .i64 e.kind, .int .i64 e.x, .int .i64 e.y, .int .i64 e.vx, .int .i64 e.vy, .int .i64 e.hp, .int .i64 e.wt]] wx fun x w' => x = .returned (.bool (okB bs e)) ∧ ∃ v3, YS w w' nb ne b1 b2 bs e L ([] ++ if okB bs e = true then putB bs e else []) v3 F := by
  obtain ⟨v1, h⟩ := h
  refine (erput w wx b2 _ [] _ bs e ⟨v2, h.up3.up3⟩ (by decide)).mono ?_
  rintro x w' ⟨hx, v3, h3⟩
  exact ⟨hx, v3, v1, h3.up3.up3⟩
theorem ys_awake (h : YS w wx nb ne b1 b2 bs e L M v2 F) : Calls Try.prog 13 #[] wx fun x w' => x = .returned (.bool true) ∧ YS w w' nb ne b1 b2 bs e L M v2 F :=
  (awake10 wx).mono fun _ _ hh => ⟨hh.1, h.then hh.2⟩
theorem ys_count (h : YS w wx nb ne b1 b2 bs e L M v2 F) : Calls Try.prog 21 #[.pointer (some ⟨b1, 0, none⟩)] wx fun x w' => x = .returned (.int .i64 (L.length : Int)) ∧ YS w w' nb ne b1 b2 bs e L M v2 F := by
  have h0 := h
  obtain ⟨v1, h⟩ := h
  refine (count w w.heap.size wx b1 _ L _ ⟨v1, h⟩).mono ?_
  rintro x w' ⟨hx, rfl⟩
  exact ⟨hx, h0⟩
theorem ys_bytes (h : YS w wx nb ne b1 b2 bs e L M v2 F) (hl : L.length ≤ 1000000000) : Calls Try.prog 24 #[.pointer (some ⟨b1, 0, none⟩)] wx fun x w' => ∃ v', x = .returned v' ∧ YS w w' nb ne b1 b2 bs e L M v2 (.rw v' 5 1 (nby L) (nums .u8 (pack L)) :: F) := by
  obtain ⟨v1, h⟩ := h
  refine (Wr.bytes w w.heap.size wx b1 _ L _ ⟨v1, h⟩ hl).mono ?_
  rintro x w' ⟨v', rfl, v3, h3⟩
  refine ⟨v', rfl, v3, h3.perm ?_⟩
  exact List.Perm.cons _ (List.Perm.cons _ (perm4.symm.trans (List.Perm.refl _)))
theorem ys_rbytes (h : YS w wx nb ne b1 b2 bs e L M v2 F) (hl : M.length ≤ 1000000000) : Calls Try.prog 25 #[.pointer (some ⟨b2, 0, none⟩)] wx fun x w' => ∃ v', x = .returned v' ∧ YS w w' nb ne b1 b2 bs e L M v2 (.rw v' 5 1 (nby M) (nums .u8 (pack M)) :: F) := by
  obtain ⟨v1, h⟩ := h
  refine (Wr.rbytesV w w.heap.size wx b2 _ M _ v2 h.up3.up3 hl).mono ?_
  rintro x w' ⟨v', rfl, h3⟩
  refine ⟨v', rfl, v1, ?_⟩
  have h4 := h3.up4.up4
  exact h4.perm (List.Perm.cons _ (List.Perm.cons _ (List.Perm.cons _ (List.Perm.cons _ perm2.symm))))
theorem ys_same {v3 v5 : Value} {R : List Bool} (h : YS w wx nb ne b1 b2 bs e L M v2 (.rw v5 5 1 (nby R) (nums .u8 (pack R)) :: .rw v3 5 1 (nby R) (nums .u8 (pack R)) :: F)) :
    Calls Try.prog 23 #[v3, v5] wx fun x w' => x = .returned (.bool true) ∧ YS w w' nb ne b1 b2 bs e L M v2 (.rw v5 5 1 (nby R) (nums .u8 (pack R)) :: .rw v3 5 1 (nby R) (nums .u8 (pack R)) :: F) := by
  have h0 := h
  obtain ⟨v1, h⟩ := h
  have r3 := h.up7.rd
  have r5 := h.up6.rd
  rw [← pack_length R] at r3 r5
  refine (same wx _ _ (pack R) (pack R) r3 r5).mono ?_
  rintro e' w4 ⟨rfl, hd⟩
  exact ⟨by simp, h0.then hd.below⟩
end

set_option maxHeartbeats 2000000 in
theorem entityPuts_core (w : World) (bs e : Enty) :
    Calls Try.prog 6 #[.agg #[.int .i64 bs.id, .int .i64 bs.kind, .int .i64 bs.x, .int .i64 bs.y, .int .i64 bs.vx, .int .i64 bs.vy, .int .i64 bs.hp, .int .i64 bs.wt], .agg #[.int .i64 e.id, .int .i64 e.kind, .int .i64 e.x, .int .i64 e.y, .int .i64 e.vx, .int .i64 e.vy, .int .i64 e.hp, .int .i64 e.wt]] w fun e' w' => e' = .returned (.bool true) ∧ Below w.heap.size w w' := by
  have h1 := (Holds.start w).alloc [.int .i64 bs.id, .int .i64 bs.kind, .int .i64 bs.x, .int .i64 bs.y, .int .i64 bs.vx, .int .i64 bs.vy, .int .i64 bs.hp, .int .i64 bs.wt] 29
  have h2 := h1.alloc [.int .i64 e.id, .int .i64 e.kind, .int .i64 e.x, .int .i64 e.y, .int .i64 e.vx, .int .i64 e.vy, .int .i64 e.hp, .int .i64 e.wt] 29
  have hs1 : (w.alloc (.cells #[.int .i64 bs.id, .int .i64 bs.kind, .int .i64 bs.x, .int .i64 bs.y, .int .i64 bs.vx, .int .i64 bs.vy, .int .i64 bs.hp, .int .i64 bs.wt] 29)).heap.size = w.heap.size + 1 := by simp
  rw [hs1] at h2
  obtain ⟨v1, h3⟩ := fresh h2 37
  have hs2 : ((w.alloc (.cells #[.int .i64 bs.id, .int .i64 bs.kind, .int .i64 bs.x, .int .i64 bs.y, .int .i64 bs.vx, .int .i64 bs.vy, .int .i64 bs.hp, .int .i64 bs.wt] 29)).alloc (.cells #[.int .i64 e.id, .int .i64 e.kind, .int .i64 e.x, .int .i64 e.y, .int .i64 e.vx, .int .i64 e.vy, .int .i64 e.hp, .int .i64 e.wt] 29)).heap.size = w.heap.size + 1 + 1 := by simp
  rw [hs2] at h3
  obtain ⟨v2, h4⟩ := rfresh h3 44
  have hs3 : (((w.alloc (.cells #[.int .i64 bs.id, .int .i64 bs.kind, .int .i64 bs.x, .int .i64 bs.y, .int .i64 bs.vx, .int .i64 bs.vy, .int .i64 bs.hp, .int .i64 bs.wt] 29)).alloc (.cells #[.int .i64 e.id, .int .i64 e.kind, .int .i64 e.x, .int .i64 e.y, .int .i64 e.vx, .int .i64 e.vy, .int .i64 e.hp, .int .i64 e.wt] 29)).alloc (.cells #[.slice none 0 0, .int .i64 0] 37)).heap.size = w.heap.size + 1 + 1 + 1 := by simp
  rw [hs3] at h4
  have hx : YS w _ w.heap.size (w.heap.size + 1) (w.heap.size + 1 + 1) (w.heap.size + 1 + 1 + 1) bs e [] [] v2 [] := ⟨v1, h4.up3.up3⟩
  have HX := Lib.hid hx.drew
  obtain ⟨ok, hok⟩ : ∃ ok, okB bs e = ok := ⟨_, rfl⟩
  have hp1 := fun wx v2 (h : YS w wx w.heap.size (w.heap.size + 1) (w.heap.size + 1 + 1) (w.heap.size + 1 + 1 + 1) bs e [] [] v2 []) => ys_put h
  have hp2 := fun wx L v2 (h : YS w wx w.heap.size (w.heap.size + 1) (w.heap.size + 1 + 1) (w.heap.size + 1 + 1 + 1) bs e L [] v2 []) => ys_rput h
  simp only [hok] at hp1 hp2
  obtain ⟨R, hR⟩ : ∃ R, ([] ++ if ok = true then putB bs e else []) = R := ⟨_, rfl⟩
  have hRl : R.length ≤ 1000000000 := by
    rw [← hR]
    have h1 := mask_len bs e 6
    have h2 := diff_len bs e 6
    split
    · unfold putB; simp only [List.nil_append, List.length_append]; omega
    · simp
  simp only [hR] at hp1 hp2
  have HP1 := Lib.hid hp1
  have HP2 := Lib.hid hp2
  have HRL := Lib.hid hRl
  clear h1 h2 h3 h4 hs1 hs2 hs3 hx hp1 hp2 hok hR hRl
  go_enter Try.func6, Try.ntmps6
  go_wp2_with fail
  go_region_held3 (fun w' => w'.cell? ⟨w.heap.size, 0, none⟩ = some (.int .i64 bs.id) ∧ w'.cell? ⟨w.heap.size, 1, none⟩ = some (.int .i64 bs.kind) ∧ w'.cell? ⟨w.heap.size, 2, none⟩ = some (.int .i64 bs.x) ∧ w'.cell? ⟨w.heap.size, 3, none⟩ = some (.int .i64 bs.y) ∧ w'.cell? ⟨w.heap.size, 4, none⟩ = some (.int .i64 bs.vx) ∧ w'.cell? ⟨w.heap.size, 5, none⟩ = some (.int .i64 bs.vy) ∧ w'.cell? ⟨w.heap.size, 6, none⟩ = some (.int .i64 bs.hp) ∧ w'.cell? ⟨w.heap.size, 7, none⟩ = some (.int .i64 bs.wt) ∧ w'.cell? ⟨w.heap.size + 1, 0, none⟩ = some (.int .i64 e.id) ∧ w'.cell? ⟨w.heap.size + 1, 1, none⟩ = some (.int .i64 e.kind) ∧ w'.cell? ⟨w.heap.size + 1, 2, none⟩ = some (.int .i64 e.x) ∧ w'.cell? ⟨w.heap.size + 1, 3, none⟩ = some (.int .i64 e.y) ∧ w'.cell? ⟨w.heap.size + 1, 4, none⟩ = some (.int .i64 e.vx) ∧ w'.cell? ⟨w.heap.size + 1, 5, none⟩ = some (.int .i64 e.vy) ∧ w'.cell? ⟨w.heap.size + 1, 6, none⟩ = some (.int .i64 e.hp) ∧ w'.cell? ⟨w.heap.size + 1, 7, none⟩ = some (.int .i64 e.wt))
    (exact ⟨YS.cellB HX.out 0 rfl, YS.cellB HX.out 1 rfl, YS.cellB HX.out 2 rfl, YS.cellB HX.out 3 rfl, YS.cellB HX.out 4 rfl, YS.cellB HX.out 5 rfl, YS.cellB HX.out 6 rfl, YS.cellB HX.out 7 rfl, YS.cellE HX.out 0 rfl, YS.cellE HX.out 1 rfl, YS.cellE HX.out 2 rfl, YS.cellE HX.out 3 rfl, YS.cellE HX.out 4 rfl, YS.cellE HX.out 5 rfl, YS.cellE HX.out 6 rfl, YS.cellE HX.out 7 rfl⟩)
    (first | (go_at_call 20; with_reducible refine (HP1.out _ _ HX.out).mono ?_; rintro e' wn ⟨rfl, hx⟩; have HX := Lib.hid hx; clear hx) | (go_at_call 22; with_reducible refine (HP2.out _ _ _ HX.out).mono ?_; rintro e' wn ⟨rfl, v3, hx⟩; have HX := Lib.hid hx; clear hx))
  all_goals
    have hx0 := HX.out
    have hx1 := hx0
    obtain ⟨v5, h5⟩ := hx1
    obtain ⟨A2, c2, rfl⟩ := h5.up3.slice
    have HX := Lib.hid (YS.drew hx0)
    clear hx0
    have te : (ok == ok) = true := by simp
    have te2 : ((R.length : Int) == (R.length : Int)) = true := by simp
    clear h5 HP1 HP2
    go_wp2_with fail
    go_region_held3 (fun w' => w'.cell? ⟨w.heap.size + 1 + 1 + 1, 0, none⟩ = some (.slice A2 R.length c2))
      (exact YS.cellV HX.out)
      (first | (go_at_call 13; with_reducible refine (ys_awake HX.out).mono ?_; rintro e' wn ⟨rfl, hx⟩; have HX := Lib.hid hx; clear hx) | (go_at_call 24; with_reducible refine (ys_bytes HX.out HRL.out).mono ?_; rintro e' wn ⟨vn, rfl, hx⟩; have HX := Lib.hid hx; clear hx) | (go_at_call 25; with_reducible refine (ys_rbytes HX.out HRL.out).mono ?_; rintro e' wn ⟨vn, rfl, hx⟩; have HX := Lib.hid hx; clear hx) | (go_at_call 23; with_reducible refine (ys_same HX.out).mono ?_; rintro e' wn ⟨rfl, hx⟩; have HX := Lib.hid hx; clear hx) | (go_at_call 21; with_reducible refine (ys_count HX.out).mono ?_; rintro e' wn ⟨rfl, hx⟩; have HX := Lib.hid hx; clear hx))
    all_goals
      go_wp2_with fail
      go_ret
      exact ⟨ret_b (by simp), YS.below HX.out⟩

theorem entityPuts (w : World) {H : Type} {enc : TypeId × Value → H} {base base' base2 base2' : Nat} {sp sp2 : Nat → Bool} {held held2 : Bool} {d d2 : DataW H} {ps ps2 : List MemPlace} {r r2 : Reach} (v0 : Value)
    (hok0 : Value.okWide Try.prog w r base' 29 v0) (h0 : DataW.Trod enc Try.prog w base sp held 29 v0 d ps) (v : Value)
    (hok : Value.okWide Try.prog w r2 base2' 29 v) (h : DataW.Trod enc Try.prog w base2 sp2 held2 29 v d2 ps2) :
    Calls Try.prog 6 #[v0, v] w fun e' w' => e' = .returned (.bool true) ∧ Below w.heap.size w w' := by
  obtain ⟨bs, rfl, _⟩ := open_ent hok0 h0
  obtain ⟨e, rfl, _⟩ := open_ent hok h
  exact entityPuts_core w bs e

end Go.Proofs.Ytfcncmhcmbghpaa.Ents
