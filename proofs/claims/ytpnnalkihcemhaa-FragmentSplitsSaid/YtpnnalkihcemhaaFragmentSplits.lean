/- The law FragmentSplits: all messages are parted as the chapter says, or refused. For all messages and bytes; no condition. Here: the walk. -/
import Derived.Test.YtpnnalkihcemhaaFragO
set_option linter.unusedVariables false
set_option linter.unusedSimpArgs false
namespace Go.Proofs.Ytpnnalkihcemhaa.Frag
open Go.Sort Go.RowKit Go.Deep Go.WideShapes Go.ChangeShapes Go.Proofs.Ytpnnalkihcemhaa.Mem Go.Proofs.Ytpnnalkihcemhaa.Open Go.Proofs.Ytpnnalkihcemhaa.Num Go.Proofs.Ytpnnalkihcemhaa.Wr Go.Proofs.Ytpnnalkihcemhaa.Step Go.Proofs.YtpnnalkihcemhaaW.PrintWords

/-- The message's cells stand at block nb, behind them whatever the calls made; lists of parts that are read. -/
def SS (w wx : World) (nb : Nat) (i s x : Int) (G : List (Value × List (List Int))) : Prop := Below w.heap.size w wx ∧ w.heap.size ≤ nb ∧ Holds w w.heap.size wx [.st nb [.int .u16 i, .int .u16 s, .int .u8 x] 24] ∧ ∀ p, p ∈ G → RdS wx p.1 p.2
section
variable {w wx wy : World} {nb : Nat} {i s x : Int} {G : List (Value × List (List Int))}
theorem SS.then (h : SS w wx nb i s x G) (hb : Below wx.heap.size wx wy) : SS w wy nb i s x G :=
  ⟨h.1.trans (hb.mono h.1.size), h.2.1, Holds.belowed h.2.2.1 hb, fun p hp => (h.2.2.2 p hp).below hb⟩
theorem SS.drew (h : SS w wx nb i s x G) : SS w wx.drew nb i s x G := h.then (by exact (Drawn0.refl wx).step _ |>.below)
theorem SS.c0 (h : SS w wx nb i s x G) : wx.cell? ⟨nb, 0, none⟩ = some (.int .u16 i) := h.2.2.1.cell 0 rfl
theorem SS.c1 (h : SS w wx nb i s x G) : wx.cell? ⟨nb, 1, none⟩ = some (.int .u16 s) := h.2.2.1.cell 1 rfl
theorem SS.c2 (h : SS w wx nb i s x G) : wx.cell? ⟨nb, 2, none⟩ = some (.int .u8 x) := h.2.2.1.cell 2 rfl

/-- A row of bytes besides. -/
def SB (w wx : World) (nb : Nat) (i s x : Int) (G : List (Value × List (List Int))) (v : Value) (bs : List Int) : Prop := SS w wx nb i s x G ∧ Rd wx v bs.length (nums .u8 bs)

theorem ss_bytes {bs : List Int} (h : SS w wx nb i s x G) (hm : MsgOk i s x) (hb : msgB s x = bs) :
    Calls Try.prog 16 #[.agg #[.int .u16 i, .int .u16 s, .int .u8 x]] wx fun e w' => ∃ A c, e = .returned (.slice A bs.length c) ∧ SB w w' nb i s x G (.slice A bs.length c) bs := by
  refine (mbytes wx i s x hm.2.2.1 hm.2.2.2.1 hm.2.2.2.2.1 hm.2.2.2.2.2).mono ?_
  rintro e w' ⟨v', rfl, h1⟩
  rw [hb] at h1
  obtain ⟨A, c, rfl⟩ := h1.slice
  exact ⟨A, c, rfl, h.then h1.below, h1.rd⟩

theorem SS.push (h : SS w wx nb i s x G) {v : Value} {L : List (List Int)} (hr : RdS wx v L) : SS w wx nb i s x ((v, L) :: G) :=
  ⟨h.1, h.2.1, h.2.2.1, fun p hp => by
    rcases List.mem_cons.1 hp with rfl | hp
    · exact hr
    · exact h.2.2.2 p hp⟩

theorem ss_split {v : Value} {bs : List Int} {er : Int} {L : List (List Int)} (h : SB w wx nb i s x G v bs) (hm : MsgOk i s x) (he : errS bs = er) (hL : partsOf i bs = L) :
    Calls Try.prog 15 #[.int .u16 i, v] wx fun e w' => ∃ v', e = .returned (.tuple #[v', .int .i64 er]) ∧ SS w w' nb i s x ((v', L) :: G) := by
  refine (fsplit wx i v bs hm.1 hm.2.1 h.2).mono ?_
  rintro e w' ⟨v', rfl, h1, h2⟩
  rw [he]
  rw [hL] at h2
  exact ⟨v', rfl, (h.1.then h1).push h2⟩
theorem ss_rsplit {v : Value} {bs : List Int} {er : Int} {L : List (List Int)} (h : SB w wx nb i s x G v bs) (hm : MsgOk i s x) (he : errS bs = er) (hL : partsOf i bs = L) :
    Calls Try.prog 17 #[.int .u16 i, v] wx fun e w' => ∃ v', e = .returned (.tuple #[v', .int .i64 er]) ∧ SS w w' nb i s x ((v', L) :: G) := by
  refine (rsplit wx i v bs hm.1 hm.2.1 h.2).mono ?_
  rintro e w' ⟨v', rfl, h1, h2⟩
  rw [he]
  rw [hL] at h2
  exact ⟨v', rfl, (h.1.then h1).push h2⟩
theorem ss_same {v v' : Value} {L : List (List Int)} (h : SS w wx nb i s x G) (h1 : (v, L) ∈ G) (h2 : (v', L) ∈ G) :
    Calls Try.prog 18 #[v, v'] wx fun e w' => e = .returned (.bool true) ∧ SS w w' nb i s x G := by
  refine (lsame wx v v' L (h.2.2.2 _ h1) (h.2.2.2 _ h2)).mono ?_
  rintro e w' ⟨rfl, h3⟩
  exact ⟨rfl, h.then h3⟩
end

set_option maxHeartbeats 2000000 in
theorem fragmentSplits_core (w : World) (i s x : Int) (hm : MsgOk i s x) (v : Value) (bs : List Int) (hv : Rd w v bs.length (nums .u8 bs)) :
    Calls Try.prog 3 #[.agg #[.int .u16 i, .int .u16 s, .int .u8 x], v] w fun e' w' => e' = .returned (.bool true) ∧ Below w.heap.size w w' := by
  obtain ⟨A, c, rfl, hc, hmc, hr⟩ := Rd.form hv (nums_length _ _)
  have HV := Lib.hid hv
  clear hr hmc hc hv
  have h0 := (Holds.start w).alloc [.int .u16 i, .int .u16 s, .int .u8 x] 24
  have hs0 : SS w (w.alloc (.cells [.int .u16 i, .int .u16 s, .int .u8 x].toArray 24)) w.heap.size i s x [] := ⟨h0.below, Nat.le_refl _, h0, fun p hp => by simp at hp⟩
  have HS0 := Lib.hid hs0
  have HM := Lib.hid hm
  clear h0 hs0 hm
  by_cases hbig : 5000 < bs.length
  · have tb : decide ((5000 : Int) < (bs.length : Int)) = true := by simp; omega
    clear hbig
    go_enter Try.func3, Try.ntmps3
    go_wp2_with fail
    refine (awake15 _).mono ?_
    rintro e' w1 ⟨rfl, h1⟩
    have HS1 := Lib.hid (HS0.out.then h1)
    clear h1
    go_wp2_with fail
    refine (awake15 _).mono ?_
    rintro e' w3 ⟨rfl, h4⟩
    have HS2 := Lib.hid (HS1.out.then h4)
    clear h4
    go_wp2_with fail
    go_ret
    exact ⟨rfl, HS2.out.1⟩
  · have tb : decide ((5000 : Int) < (bs.length : Int)) = false := by simp; omega
    clear hbig
    obtain ⟨ms, hms⟩ : ∃ ms, msgB s x = ms := ⟨_, rfl⟩
    obtain ⟨e1, he1⟩ : ∃ e1, errS ms = e1 := ⟨_, rfl⟩
    obtain ⟨e2, he2⟩ : ∃ e2, errS bs = e2 := ⟨_, rfl⟩
    obtain ⟨L1, hL1⟩ : ∃ L1, partsOf i ms = L1 := ⟨_, rfl⟩
    obtain ⟨L2, hL2⟩ : ∃ L2, partsOf i bs = L2 := ⟨_, rfl⟩
    have HMS := Lib.hid hms
    have HE1 := Lib.hid he1
    have HE2 := Lib.hid he2
    have HL1 := Lib.hid hL1
    have HL2 := Lib.hid hL2
    clear hms he1 he2 hL1 hL2
    go_enter Try.func3, Try.ntmps3
    go_wp2_with fail
    refine (awake15 _).mono ?_
    rintro e' w1 ⟨rfl, h1⟩
    have hs1 := (HS0.out.then h1).drew
    have HX := Lib.hid hs1
    clear h1 hs1 HS0
    generalize w.heap.size = nb at HX
    go_wp2_with fail
    go_region_held3 (fun w' => w'.cell? ⟨nb, 0, none⟩ = some (.int .u16 i) ∧ w'.cell? ⟨nb, 1, none⟩ = some (.int .u16 s) ∧ w'.cell? ⟨nb, 2, none⟩ = some (.int .u8 x))
      (first | exact ⟨SS.c0 HX.out, SS.c1 HX.out, SS.c2 HX.out⟩ | exact ⟨SS.c0 HX.out.1, SS.c1 HX.out.1, SS.c2 HX.out.1⟩)
      (first
        | (go_at_call 16; with_reducible refine (ss_bytes HX.out HM.out HMS.out).mono ?_; rintro e' wn ⟨An, cn, rfl, hx⟩; have HX := Lib.hid hx; clear hx)
        | (go_at_call 15; with_reducible refine (ss_split HX.out HM.out HE1.out HL1.out).mono ?_; rintro e' wn ⟨vn, rfl, hx⟩; have HX := Lib.hid hx; clear hx)
        | fail)
    all_goals
      go_wp2_with fail
      have hs2 := SS.drew HX.out
      have HX := Lib.hid hs2
      clear hs2
      go_region_held3 (fun w' => w'.cell? ⟨nb, 0, none⟩ = some (.int .u16 i) ∧ w'.cell? ⟨nb, 1, none⟩ = some (.int .u16 s) ∧ w'.cell? ⟨nb, 2, none⟩ = some (.int .u8 x))
        (first | exact ⟨SS.c0 HX.out, SS.c1 HX.out, SS.c2 HX.out⟩ | exact ⟨SS.c0 HX.out.1, SS.c1 HX.out.1, SS.c2 HX.out.1⟩)
        (first
          | (go_at_call 16; with_reducible refine (ss_bytes HX.out HM.out HMS.out).mono ?_; rintro e' wn ⟨An, cn, rfl, hx⟩; have HX := Lib.hid hx; clear hx)
          | (go_at_call 17; with_reducible refine (ss_rsplit HX.out HM.out HE1.out HL1.out).mono ?_; rintro e' wn ⟨vm, rfl, hx⟩; have HX := Lib.hid hx; clear hx)
          | fail)
      all_goals
        have z0 := SS.c0 HX.out
        go_wp2_with fail
        clear z0
        refine (ss_split ⟨HX.out, HV.out.below HX.out.1⟩ HM.out HE2.out HL2.out).mono ?_
        rintro e' w5 ⟨v5, rfl, hx⟩
        have HX := Lib.hid hx
        have z0 := SS.c0 hx
        clear hx
        go_wp2_with fail
        clear z0
        refine (ss_rsplit ⟨HX.out, HV.out.below HX.out.1⟩ HM.out HE2.out HL2.out).mono ?_
        rintro e' w6 ⟨v6, rfl, hx⟩
        have HX := Lib.hid hx
        clear hx
        have t1 : (e1 == e1) = true := by simp
        have t2 : (e2 == e2) = true := by simp
        go_wp2_with fail
        refine (ss_same HX.out (L := L1) (by simp) (by simp)).mono ?_
        rintro e' w7 ⟨rfl, hx⟩
        have HX := Lib.hid hx
        clear hx
        go_wp2_with fail
        refine (ss_same HX.out (L := L2) (by simp) (by simp)).mono ?_
        rintro e' w8 ⟨rfl, hx⟩
        go_wp2_with fail
        go_ret
        exact ⟨rfl, hx.1⟩

set_option maxRecDepth 100000 in
theorem fragmentSplits (w : World) {H : Type} {enc : TypeId × Value → H} {base base' base2 base2' : Nat} {sp sp2 : Nat → Bool} {held held2 : Bool} {d d2 : DataW H} {ps ps2 : List MemPlace} {r r2 : Reach} (v0 : Value)
    (hok0 : Value.okWide Try.prog w r base' 24 v0) (h0 : DataW.Trod enc Try.prog w base sp held 24 v0 d ps) (v : Value)
    (hok : Value.okWide Try.prog w r2 base2' 25 v) (h : DataW.Trod enc Try.prog w base2 sp2 held2 25 v d2 ps2) :
    Calls Try.prog 3 #[v0, v] w fun e' w' => e' = .returned (.bool true) ∧ Below w.heap.size w w' := by
  obtain ⟨i, s, x, rfl, hm⟩ := open_msg hok0 h0
  obtain ⟨l, hv, hwf⟩ := open_bytes hok h
  exact fragmentSplits_core w i s x hm v l hv

end Go.Proofs.Ytpnnalkihcemhaa.Frag
