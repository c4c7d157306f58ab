/- The law CommandForms: it is told of all commands, and rows, whether they are formed; each row has its bits. For all commands and lists; no condition. Here: the walk. -/
import Derived.Test.YtioogmicdonbpaaCPut
import Derived.Test.YtioogmicdonbpaaRCPut
import Derived.Test.YtioogmicdonbpaaAwake09
import Derived.Test.YtioogmicdonbpaaCmdOpen
import Derived.Test.YtioogmicdonbpaaSame
import Derived.Deep.RegionHeld3
set_option linter.unusedVariables false
set_option linter.unusedSimpArgs false
namespace Go.Proofs.Ytioogmicdonbpaa.Cmds
open Go.Sort Go.RowKit Go.Proofs.Ytioogmicdonbpaa.Mem Go.Proofs.Ytioogmicdonbpaa.Open Go.Proofs.Ytioogmicdonbpaa.Num Go.Proofs.Ytioogmicdonbpaa.Bits Go.Proofs.Ytioogmicdonbpaa.Wr Go.Proofs.YtioogmicdonbpaaW.PrintWords

def XS (w wx : World) (nb : Nat) (c : Cmd) (b1 b2 : Nat) (R : List Bool) (F : List Ent) : Prop :=
  ∃ v1 v2, Holds w w.heap.size wx (.st nb c.cells 28 :: .st b1 [v1, .int .i64 (R.length : Int)] 33 :: .rw v1 5 1 (nby R) (nums .u8 (pack R)) ::
    .st b2 [v2] 39 :: .rw v2 4 1 R.length (bools R) :: F)

section
variable {w wx : World} {nb b1 b2 : Nat} {c : Cmd} {R : List Bool} {F : List Ent}

theorem XS.below (h : XS w wx nb c b1 b2 R F) : Below w.heap.size w wx := by obtain ⟨_, _, h⟩ := h; exact h.below
theorem XS.then (h : XS w wx nb c b1 b2 R F) {w' : World} (hb : Below wx.heap.size wx w') : XS w w' nb c b1 b2 R F := by
  obtain ⟨v1, v2, h⟩ := h
  exact ⟨v1, v2, Holds.belowed h hb⟩
theorem XS.drew (h : XS w wx nb c b1 b2 R F) : XS w wx.drew nb c b1 b2 R F := by
  obtain ⟨v1, v2, h⟩ := h
  exact ⟨v1, v2, h.drew⟩
theorem XS.cell (h : XS w wx nb c b1 b2 R F) (j : Nat) {u : Value} (hu : c.cells[j]? = some u) : wx.cell? ⟨nb, j, none⟩ = some u := by
  obtain ⟨v1, v2, h⟩ := h
  exact Holds.cell h j hu

theorem xs_formed (h : XS w wx nb c b1 b2 R F) (hc : c.wf) {fb : Bool} (hf : decide (Frm c) = fb) : Calls Try.prog 17 #[.agg #[.int .u32 c.num, .int .i8 c.mx, .int .i8 c.my, .bool c.fire, .int .u32 c.view, .int .u8 c.frac]] wx fun e w' => e = .returned (.bool fb) ∧ XS w w' nb c b1 b2 R F :=
  hf ▸ (formed wx c hc).mono fun _ _ hh => ⟨hh.1, h.then hh.2⟩
theorem xs_rformed (h : XS w wx nb c b1 b2 R F) (hc : c.wf) {fb : Bool} (hf : decide (Frm c) = fb) : Calls Try.prog 18 #[.agg #[.int .u32 c.num, .int .i8 c.mx, .int .i8 c.my, .bool c.fire, .int .u32 c.view, .int .u8 c.frac]] wx fun e w' => e = .returned (.bool fb) ∧ XS w w' nb c b1 b2 R F :=
  hf ▸ (rformed wx c hc).mono fun _ _ hh => ⟨hh.1, h.then hh.2⟩
theorem xs_row (h : XS w wx nb c b1 b2 R F) {v : Value} {l : List Cmd} (hv : RdL w v 6 (l.map Cmd.cells)) (hwf : ∀ c, c ∈ l → c.wf) {rb : Bool} (hf : rowB l = rb) : Calls Try.prog 13 #[v] wx fun e w' => e = .returned (.bool rb) ∧ XS w w' nb c b1 b2 R F :=
  hf ▸ (row wx v l (RdL.below hv h.below) hwf).mono fun _ _ hh => ⟨hh.1, h.then hh.2⟩
theorem xs_rrow (h : XS w wx nb c b1 b2 R F) {v : Value} {l : List Cmd} (hv : RdL w v 6 (l.map Cmd.cells)) (hwf : ∀ c, c ∈ l → c.wf) {rb : Bool} (hf : rowB l = rb) : Calls Try.prog 19 #[v] wx fun e w' => e = .returned (.bool rb) ∧ XS w w' nb c b1 b2 R F :=
  hf ▸ (rrow wx v l (RdL.below hv h.below) hwf).mono fun _ _ hh => ⟨hh.1, h.then hh.2⟩
theorem xs_bytes (h : XS w wx nb c b1 b2 R F) (hl : R.length ≤ 1000000000) : Calls Try.prog 21 #[.pointer (some ⟨b1, 0, none⟩)] wx fun e w' => ∃ v', e = .returned v' ∧ XS w w' nb c b1 b2 R (.rw v' 5 1 (nby R) (nums .u8 (pack R)) :: F) := by
  obtain ⟨v1, v2, h⟩ := h
  refine (Wr.bytes w w.heap.size wx b1 33 R _ ⟨v1, h.up2.up2⟩ hl).mono ?_
  rintro e' w' ⟨v', rfl, v3, h3⟩
  exact ⟨v', rfl, v3, v2, h3.up2.up5.up5.up4.up4.up5⟩
theorem xs_rbytes (h : XS w wx nb c b1 b2 R F) (hl : R.length ≤ 1000000000) : Calls Try.prog 22 #[.pointer (some ⟨b2, 0, none⟩)] wx fun e w' => ∃ v', e = .returned v' ∧ XS w w' nb c b1 b2 R (.rw v' 5 1 (nby R) (nums .u8 (pack R)) :: F) := by
  obtain ⟨v1, v2, h⟩ := h
  refine (Wr.rbytes w w.heap.size wx b2 39 R _ ⟨v2, h.up4.up4⟩ hl).mono ?_
  rintro e' w' ⟨v', rfl, v3, h3⟩
  exact ⟨v', rfl, v1, v3, h3.up5.up5.up5⟩
theorem xs_same {v3 v5 : Value} (h : XS w wx nb c b1 b2 R (.rw v3 5 1 (nby R) (nums .u8 (pack R)) :: .rw v5 5 1 (nby R) (nums .u8 (pack R)) :: F)) :
    Calls Try.prog 20 #[v3, v5] wx fun e w' => e = .returned (.bool true) ∧ XS w w' nb c b1 b2 R (.rw v3 5 1 (nby R) (nums .u8 (pack R)) :: .rw v5 5 1 (nby R) (nums .u8 (pack R)) :: F) := by
  have h0 := h
  obtain ⟨v1, v2, h⟩ := h
  have r3 := h.up5.rd
  have r5 := h.up6.rd
  rw [← pack_length R] at r3 r5
  refine (same wx _ _ (pack R) (pack R) r3 r5).mono ?_
  rintro e' w4 ⟨rfl, hd⟩
  exact ⟨by simp, h0.then hd.below⟩
theorem xs_same' {v3 v5 : Value} (h : XS w wx nb c b1 b2 R (.rw v5 5 1 (nby R) (nums .u8 (pack R)) :: .rw v3 5 1 (nby R) (nums .u8 (pack R)) :: F)) :
    Calls Try.prog 20 #[v3, v5] wx fun e w' => e = .returned (.bool true) ∧ XS w w' nb c b1 b2 R (.rw v5 5 1 (nby R) (nums .u8 (pack R)) :: .rw v3 5 1 (nby R) (nums .u8 (pack R)) :: F) := by
  have h0 := h
  obtain ⟨v1, v2, h⟩ := h
  have r3 := h.up6.rd
  have r5 := h.up5.rd
  rw [← pack_length R] at r3 r5
  refine (same wx _ _ (pack R) (pack R) r3 r5).mono ?_
  rintro e' w4 ⟨rfl, hd⟩
  exact ⟨by simp, h0.then hd.below⟩
end

set_option maxHeartbeats 2000000 in
theorem commandForms_core (w : World) (v : Value) (c : Cmd) (l : List Cmd) (hc : c.wf) (hv : RdL w v 6 (l.map Cmd.cells)) (hwf : ∀ c, c ∈ l → c.wf) :
    Calls Try.prog 5 #[.agg #[.int .u32 c.num, .int .i8 c.mx, .int .i8 c.my, .bool c.fire, .int .u32 c.view, .int .u8 c.frac], v] w fun e' w' => e' = .returned (.bool true) ∧ Below w.heap.size w w' := by
  obtain ⟨A, cap, rfl, hcap, hm, hr⟩ := cells_at hv
  have HWF := Lib.hid hwf
  have HV := Lib.hid hv
  clear hr hwf hv
  have H0 := Lib.hid (((Holds.start w).alloc [.int .u32 c.num, .int .i8 c.mx, .int .i8 c.my, .bool c.fire, .int .u32 c.view, .int .u8 c.frac] 28))
  by_cases hbig : 100 < l.length
  · have hb : (100 : Int) < (l.length : Int) := by omega
    go_enter Try.func5, Try.ntmps5
    go_wp2_with fail
    have H1 := Lib.hid H0.out.below
    clear H0
    refine (awake09 _).mono ?_
    rintro e' w1 ⟨rfl, h1⟩
    have h2 := H1.out.trans (h1.mono H1.out.size)
    clear h1
    go_wp2_with fail
    refine (awake09 _).mono ?_
    rintro e' w3 ⟨rfl, h4⟩
    go_wp2_with fail
    go_ret
    exact ⟨rfl, h2.trans (h4.mono h2.size)⟩
  · have hb : ¬ (100 : Int) < (l.length : Int) := by omega
    go_enter Try.func5, Try.ntmps5
    go_wp2_with fail
    refine (awake09 _).mono ?_
    rintro e' w1 ⟨rfl, h1⟩
    have h2 := Holds.belowed H0.out h1
    clear H0 h1
    have h3 := fresh h2 33
    obtain ⟨v1, h3⟩ := h3
    have h4 := rfresh h3 39
    have hs : (w1.alloc (.cells #[.slice none 0 0, .int .i64 0] 33)).heap.size = w1.heap.size + 1 := by simp
    rw [hs] at h4
    obtain ⟨v2, h4⟩ := h4
    have H4 := Lib.hid h4
    clear h2 h3 h4 hs
    go_wp2_with fail
    obtain ⟨rb, hrb⟩ : ∃ rb, rowB l = rb := ⟨_, rfl⟩
    obtain ⟨fb, hfb⟩ : ∃ fb, decide (Frm c) = fb := ⟨_, rfl⟩
    obtain ⟨R, hR⟩ : ∃ R, (if rb = true then [] ++ rowBits l else []) = R := ⟨_, rfl⟩
    have hRl : R.length ≤ 1000000000 := by
      rw [← hR]
      split
      · rename_i h
        have := rowBits_le l ((rowB_true l).1 (hrb.trans h))
        simp; omega
      · simp
    have HRL := Lib.hid hRl
    have HRB := Lib.hid hrb
    have HFB := Lib.hid hfb
    have HCW := Lib.hid hc
    have hp1 := cput w _ w1.heap.size 33 [] _ _ l ⟨v1, H4.out.up3.up3⟩ HV.out HWF.out (by decide)
    rw [hrb, hR] at hp1
    have HP1 := Lib.hid hp1
    clear hp1 hc
    refine HP1.out.mono ?_
    rintro e' w2 ⟨rfl, v3, h5⟩
    have hp2 := rcput w w2 (w1.heap.size + 1) 39 [] _ _ l ⟨v2, h5.up3.up3⟩ HV.out HWF.out (by decide)
    rw [hrb, hR] at hp2
    have HP2 := Lib.hid hp2
    clear hp2 h5 H4 HP1 hR hrb hfb hRl
    go_wp2_with fail
    refine HP2.out.mono ?_
    rintro e' w3 ⟨rfl, v4, h6⟩
    have hx : XS w w3.drew w.heap.size c w1.heap.size (w1.heap.size + 1) R [] := XS.drew ⟨v3, v4, h6.up3.up3.up4⟩
    have HX := Lib.hid hx
    clear hx h6 HP2
    generalize w.heap.size = nb at HX
    generalize w1.heap.size = b1 at *
    generalize b1 + 1 = b2 at *
    have te : (fb == fb) = true := by simp
    have te2 : (rb == rb) = true := by simp
    go_wp2_with fail
    go_region_held3 (fun w' => w'.cell? ⟨nb, 0, none⟩ = some (.int .u32 c.num) ∧ w'.cell? ⟨nb, 1, none⟩ = some (.int .i8 c.mx) ∧ w'.cell? ⟨nb, 2, none⟩ = some (.int .i8 c.my) ∧ w'.cell? ⟨nb, 3, none⟩ = some (.bool c.fire) ∧ w'.cell? ⟨nb, 4, none⟩ = some (.int .u32 c.view) ∧ w'.cell? ⟨nb, 5, none⟩ = some (.int .u8 c.frac))
      (exact ⟨XS.cell HX.out 0 rfl, XS.cell HX.out 1 rfl, XS.cell HX.out 2 rfl, XS.cell HX.out 3 rfl, XS.cell HX.out 4 rfl, XS.cell HX.out 5 rfl⟩)
      (first | (go_at_call 17; with_reducible refine (xs_formed HX.out HCW.out HFB.out).mono ?_; rintro e' wn ⟨rfl, hx⟩; have HX := Lib.hid hx; clear hx) | (go_at_call 18; with_reducible refine (xs_rformed HX.out HCW.out HFB.out).mono ?_; rintro e' wn ⟨rfl, hx⟩; have HX := Lib.hid hx; clear hx) | (go_at_call 13; with_reducible refine (xs_row HX.out HV.out HWF.out HRB.out).mono ?_; rintro e' wn ⟨rfl, hx⟩; have HX := Lib.hid hx; clear hx) | (go_at_call 19; with_reducible refine (xs_rrow HX.out HV.out HWF.out HRB.out).mono ?_; rintro e' wn ⟨rfl, hx⟩; have HX := Lib.hid hx; clear hx) | (go_at_call 21; with_reducible refine (xs_bytes HX.out HRL.out).mono ?_; rintro e' wn ⟨vn, rfl, hx⟩; have HX := Lib.hid hx; clear hx) | (go_at_call 22; with_reducible refine (xs_rbytes HX.out HRL.out).mono ?_; rintro e' wn ⟨vn, rfl, hx⟩; have HX := Lib.hid hx; clear hx) | (go_at_call 20; with_reducible refine (xs_same HX.out).mono ?_; rintro e' wn ⟨rfl, hx⟩; have HX := Lib.hid hx; clear hx) | (go_at_call 20; with_reducible refine (xs_same' HX.out).mono ?_; rintro e' wn ⟨rfl, hx⟩; have HX := Lib.hid hx; clear hx))
    all_goals
      go_wp2_with fail
      go_ret
      exact ⟨rfl, XS.below HX.out⟩

theorem commandForms (w : World) {H : Type} {enc : TypeId × Value → H} {base base' base2 base2' : Nat} {sp sp2 : Nat → Bool} {held held2 : Bool} {d d2 : DataW H} {ps ps2 : List MemPlace} {r r2 : Reach} (v0 : Value)
    (hok0 : Value.okWide Try.prog w r base' 28 v0) (h0 : DataW.Trod enc Try.prog w base sp held 28 v0 d ps) (v : Value)
    (hok : Value.okWide Try.prog w r2 base2' 22 v) (h : DataW.Trod enc Try.prog w base2 sp2 held2 22 v d2 ps2) :
    Calls Try.prog 5 #[v0, v] w fun e' w' => e' = .returned (.bool true) ∧ Below w.heap.size w w' := by
  obtain ⟨l, hv, hwf⟩ := open_cmds hok h
  obtain ⟨c, rfl, hc⟩ := open_cmd hok0 h0
  exact commandForms_core w v c l hc hv hwf

end Go.Proofs.Ytioogmicdonbpaa.Cmds
