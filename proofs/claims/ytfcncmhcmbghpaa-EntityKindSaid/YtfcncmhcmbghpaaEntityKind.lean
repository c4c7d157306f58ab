/- The law EntityKind: on a base of another ID or Kind nothing is put. For all entities; no condition. Here: the walk. -/
import Derived.Test.YtfcncmhcmbghpaaEPut
import Derived.Test.YtfcncmhcmbghpaaAwake10
import Derived.Test.YtfcncmhcmbghpaaEntOpen
set_option linter.unusedVariables false
set_option linter.unusedSimpArgs false
namespace Go.Proofs.Ytfcncmhcmbghpaa.Ents
open Go.Sort Go.RowKit Go.Proofs.Ytfcncmhcmbghpaa.Mem Go.Proofs.Ytfcncmhcmbghpaa.Open Go.Proofs.Ytfcncmhcmbghpaa.Num Go.Proofs.Ytfcncmhcmbghpaa.Step Go.Proofs.Ytfcncmhcmbghpaa.Wr Go.Proofs.Ytfcncmhcmbghpaa.Bits

set_option maxHeartbeats 1000000 in
theorem entityKind_core (w : World) (bs e : Enty) :
    Calls Try.prog 5 #[.agg #[.int .i64 bs.id, .int .i64 bs.kind, .int .i64 bs.x, .int .i64 bs.y, .int .i64 bs.vx, .int .i64 bs.vy, .int .i64 bs.hp, .int .i64 bs.wt], .agg #[.int .i64 e.id, .int .i64 e.kind, .int .i64 e.x, .int .i64 e.y, .int .i64 e.vx, .int .i64 e.vy, .int .i64 e.hp, .int .i64 e.wt]] w fun e' w' => e' = .returned (.bool true) ∧ Below w.heap.size w w' := by
  have h1 := (Holds.start w).alloc [.int .i64 bs.id, .int .i64 bs.kind, .int .i64 bs.x, .int .i64 bs.y, .int .i64 bs.vx, .int .i64 bs.vy, .int .i64 bs.hp, .int .i64 bs.wt] 29
  have h2 := h1.alloc [.int .i64 e.id, .int .i64 e.kind, .int .i64 e.x, .int .i64 e.y, .int .i64 e.vx, .int .i64 e.vy, .int .i64 e.hp, .int .i64 e.wt] 29
  have hs1 : (w.alloc (.cells #[.int .i64 bs.id, .int .i64 bs.kind, .int .i64 bs.x, .int .i64 bs.y, .int .i64 bs.vx, .int .i64 bs.vy, .int .i64 bs.hp, .int .i64 bs.wt] 29)).heap.size = w.heap.size + 1 := by simp
  rw [hs1] at h2
  have h3 := fresh h2 37
  have hs2 : ((w.alloc (.cells #[.int .i64 bs.id, .int .i64 bs.kind, .int .i64 bs.x, .int .i64 bs.y, .int .i64 bs.vx, .int .i64 bs.vy, .int .i64 bs.hp, .int .i64 bs.wt] 29)).alloc (.cells #[.int .i64 e.id, .int .i64 e.kind, .int .i64 e.x, .int .i64 e.y, .int .i64 e.vx, .int .i64 e.vy, .int .i64 e.hp, .int .i64 e.wt] 29)).heap.size = w.heap.size + 1 + 1 := by simp
  rw [hs2] at h3
  have hz := h3
  obtain ⟨v0, hz⟩ := hz
  have e0 := hz.up2.cell 0 rfl
  have z0 := hz.up3.cell 0 rfl
  have e1 := hz.up2.cell 1 rfl
  have z1 := hz.up3.cell 1 rfl
  have e2 := hz.up2.cell 2 rfl
  have z2 := hz.up3.cell 2 rfl
  have e3 := hz.up2.cell 3 rfl
  have z3 := hz.up3.cell 3 rfl
  have e4 := hz.up2.cell 4 rfl
  have z4 := hz.up3.cell 4 rfl
  have e5 := hz.up2.cell 5 rfl
  have z5 := hz.up3.cell 5 rfl
  have e6 := hz.up2.cell 6 rfl
  have z6 := hz.up3.cell 6 rfl
  have e7 := hz.up2.cell 7 rfl
  have z7 := hz.up3.cell 7 rfl
  obtain ⟨ok, hok⟩ : ∃ ok, okB bs e = ok := ⟨_, rfl⟩
  have hp := eput w _ _ 37 [] _ bs e h3 (by decide)
  rw [hok] at hp
  have HP := Lib.hid hp
  have HOK := Lib.hid hok
  clear h1 h2 h3 hs1 hs2 hp hok hz
  go_enter Try.func5, Try.ntmps5
  go_wp2_with fail
  refine HP.out.mono ?_
  rintro e' w3 ⟨rfl, h3⟩
  have H3 := Lib.hid h3
  clear h3 HP e0 e1 e2 e3 e4 e5 e6 e7 z0 z1 z2 z3 z4 z5 z6 z7 v0
  go_wp2_with fail
  refine (awake10 _).mono ?_
  rintro e' w4 ⟨rfl, h4⟩
  have h5 := HasW.belowed H3.out h4
  obtain ⟨v1, h5⟩ := h5
  have e0 := h5.up2.cell 0 rfl
  have e1 := h5.up2.cell 1 rfl
  have e2 := h5.up2.cell 2 rfl
  have e3 := h5.up2.cell 3 rfl
  have e4 := h5.up2.cell 4 rfl
  have e5 := h5.up2.cell 5 rfl
  have e6 := h5.up2.cell 6 rfl
  have e7 := h5.up2.cell 7 rfl
  have H5 := Lib.hid h5
  clear h4 h5 H3
  obtain ⟨fb, hfe⟩ : ∃ fb, decide (EFrm e) = fb := ⟨_, rfl⟩
  have hf : ∀ w', Calls Try.prog 14 #[.agg #[.int .i64 e.id, .int .i64 e.kind, .int .i64 e.x, .int .i64 e.y, .int .i64 e.vx, .int .i64 e.vy, .int .i64 e.hp, .int .i64 e.wt]] w' fun e' w'' => e' = .returned (.bool fb) ∧ Below w'.heap.size w' w'' := fun w' => by
    have := eformed w' e
    rw [hfe] at this
    exact this
  have HF := Lib.hid hf
  obtain ⟨ib, hib⟩ : ∃ ib, decide (bs.id = e.id) = ib := ⟨_, rfl⟩
  obtain ⟨kb, hkb⟩ : ∃ kb, decide (bs.kind = e.kind) = kb := ⟨_, rfl⟩
  have t1 : (bs.id == e.id) = ib := hib
  have t2 : (bs.kind == e.kind) = kb := hkb
  have hall : ok = (fb && (ib && kb)) := by
    rw [← HOK.out, ← hfe, ← hib, ← hkb, Bool.eq_iff_iff]
    unfold okB
    simp only [decide_eq_true_eq, Bool.and_eq_true]
  clear hf hfe hib hkb HOK
  go_wp2_with fail
  refine (HF.out _).mono ?_
  rintro e' w5 ⟨rfl, h6⟩
  have h7 := Holds.belowed H5.out h6
  have d0 := h7.up2.cell 0 rfl
  have d1 := h7.up2.cell 1 rfl
  have z0 := h7.up3.cell 0 rfl
  have z1 := h7.up3.cell 1 rfl
  have H7 := Lib.hid h7
  clear h6 h7 H5 e0 e1 e2 e3 e4 e5 e6 e7
  cases fb with
  | false =>
    obtain rfl : ok = false := by simpa using hall
    clear hall
    go_wp2_with fail
    refine (count w w.heap.size _ _ 37 _ _ ⟨v1, H7.out⟩).mono ?_
    rintro e' w6 ⟨rfl, rfl⟩
    go_wp2_with fail
    go_ret
    exact ⟨rfl, H7.out.below⟩
  | true =>
    cases ib with
    | false =>
      obtain rfl : ok = false := by simpa using hall
      clear hall
      go_wp2_with fail
      refine (count w w.heap.size _ _ 37 _ _ ⟨v1, H7.out⟩).mono ?_
      rintro e' w6 ⟨rfl, rfl⟩
      go_wp2_with fail
      go_ret
      exact ⟨rfl, H7.out.below⟩
    | true =>
      cases kb with
      | false =>
        obtain rfl : ok = false := by simpa using hall
        clear hall
        go_wp2_with fail
        refine (count w w.heap.size _ _ 37 _ _ ⟨v1, H7.out⟩).mono ?_
        rintro e' w6 ⟨rfl, rfl⟩
        go_wp2_with fail
        go_ret
        exact ⟨rfl, H7.out.below⟩
      | true =>
        obtain rfl : ok = true := by simpa using hall
        clear hall
        go_wp2_with fail
        go_ret
        exact ⟨rfl, H7.out.below⟩

theorem entityKind (w : World) {H : Type} {enc : TypeId × Value → H} {base base' base2 base2' : Nat} {sp sp2 : Nat → Bool} {held held2 : Bool} {d d2 : DataW H} {ps ps2 : List MemPlace} {r r2 : Reach} (v0 : Value)
    (hok0 : Value.okWide Try.prog w r base' 29 v0) (h0 : DataW.Trod enc Try.prog w base sp held 29 v0 d ps) (v : Value)
    (hok : Value.okWide Try.prog w r2 base2' 29 v) (h : DataW.Trod enc Try.prog w base2 sp2 held2 29 v d2 ps2) :
    Calls Try.prog 5 #[v0, v] w fun e' w' => e' = .returned (.bool true) ∧ Below w.heap.size w w' := by
  obtain ⟨bs, rfl, _⟩ := open_ent hok0 h0
  obtain ⟨e, rfl, _⟩ := open_ent hok h
  exact entityKind_core w bs e

end Go.Proofs.Ytfcncmhcmbghpaa.Ents
