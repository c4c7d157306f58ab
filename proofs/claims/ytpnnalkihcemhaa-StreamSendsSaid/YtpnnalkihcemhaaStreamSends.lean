/- The law StreamSends: whatever is queued, put and confirmed is answered as the chapter says. For all scripts; no condition. Here: the walk. -/
import Derived.Test.YtpnnalkihcemhaaStrOpen
import Derived.Deep.RegionHeld3
set_option linter.unusedVariables false
set_option linter.unusedSimpArgs false
namespace Go.Proofs.Ytpnnalkihcemhaa.Str
open Go.Sort Go.RowKit Go.Deep Go.WideShapes Go.ChangeShapes Go.Proofs.Ytpnnalkihcemhaa.Mem Go.Proofs.Ytpnnalkihcemhaa.Open Go.Proofs.Ytpnnalkihcemhaa.Bits Go.Proofs.Ytpnnalkihcemhaa.Wr Go.Proofs.Ytpnnalkihcemhaa.Num Go.Proofs.Ytpnnalkihcemhaa.Step Go.Proofs.YtpnnalkihcemhaaW.PrintWords

theorem tot_facts (tot : Int) (s : Nat) : ∃ x : Int, IntKind.i64.wrap (tot + (s : Int)) = x ∧ wrap64 (tot + (s : Int)) = x :=
  ⟨_, rfl, (wrap_i64 _).symm⟩

theorem sendB_length {g : Int} {l : List ByteArray} (h : Fits l) : (sendB g l (sendN l)).length ≤ 4000 := by
  have h1 := linesB_length h (sendN l)
  have h2 : sendN l ≤ 7 := by unfold sendN; omega
  unfold sendB
  rw [List.length_append, bitsOf_length]
  split
  · simp
  · rw [List.length_append, bitsOf_length]; omega

/-- The writer at bw, the reference's bits at bx, of the same bits. -/
def XT (w wx : World) (bx bw : Nat) (Ax : Option Addr) (cx : Nat) (R : List Bool) (F : List Ent) : Prop :=
  ∃ vw, Holds w w.heap.size wx (.st bx [.slice Ax R.length cx] 78 :: .rw (.slice Ax R.length cx) 4 1 R.length (bools R) :: .st bw [vw, .int .i64 (R.length : Int)] 74 :: .rw vw 5 1 (nby R) (nums .u8 (pack R)) :: F)

section
variable {w wx : World} {bx bw cx : Nat} {Ax : Option Addr} {R : List Bool} {F : List Ent}
theorem XT.cell (h : XT w wx bx bw Ax cx R F) : wx.cell? ⟨bx, 0, none⟩ = some (.slice Ax R.length cx) := by
  obtain ⟨vw, h⟩ := h
  exact Holds.cell h 0 rfl
theorem xt_bytes (h : XT w wx bx bw Ax cx R F) (hl : R.length ≤ 1000000000) : Calls Try.prog 29 #[.pointer (some ⟨bw, 0, none⟩)] wx fun e w' => ∃ v', e = .returned v' ∧ XT w w' bx bw Ax cx R (.rw v' 5 1 (nby R) (nums .u8 (pack R)) :: F) := by
  obtain ⟨vw, h⟩ := h
  refine (Wr.bytes w w.heap.size wx bw 74 R _ ⟨vw, h.up3.up3⟩ hl).mono ?_
  rintro e' w' ⟨v', rfl, v3, h3⟩
  exact ⟨v', rfl, v3, h3.up4.up4⟩
theorem xt_rbytes (h : XT w wx bx bw Ax cx R F) (hl : R.length ≤ 1000000000) : Calls Try.prog 30 #[.pointer (some ⟨bx, 0, none⟩)] wx fun e w' => ∃ v', e = .returned v' ∧ XT w w' bx bw Ax cx R (.rw v' 5 1 (nby R) (nums .u8 (pack R)) :: F) := by
  obtain ⟨vw, h⟩ := h
  refine (Wr.rbytesV w w.heap.size wx bx 78 R _ _ h hl).mono ?_
  rintro e' w' ⟨v', rfl, h3⟩
  exact ⟨v', rfl, vw, h3.perm (List.Perm.cons _ (List.Perm.cons _ perm2.symm))⟩
theorem xt_count (h : XT w wx bx bw Ax cx R F) : Calls Try.prog 31 #[.pointer (some ⟨bw, 0, none⟩)] wx fun e w' => e = .returned (.int .i64 (R.length : Int)) ∧ XT w w' bx bw Ax cx R F := by
  have h0 := h
  obtain ⟨vw, h⟩ := h
  refine (Wr.count w w.heap.size wx bw 74 R _ ⟨vw, h.up3.up3⟩).mono ?_
  rintro e' w' ⟨rfl, rfl⟩
  exact ⟨rfl, h0⟩
theorem xt_same {v3 v5 : Value} (h : XT w wx bx bw Ax cx R (.rw v3 5 1 (nby R) (nums .u8 (pack R)) :: .rw v5 5 1 (nby R) (nums .u8 (pack R)) :: F)) :
    Calls Try.prog 21 #[v3, v5] wx fun e w' => e = .returned (.bool true) ∧ XT w w' bx bw Ax cx R (.rw v3 5 1 (nby R) (nums .u8 (pack R)) :: .rw v5 5 1 (nby R) (nums .u8 (pack R)) :: F) := by
  obtain ⟨vw, h⟩ := h
  have r3 := h.up4.rd
  have r5 := h.up5.rd
  rw [← pack_length R] at r3 r5
  refine (same wx _ _ (pack R) (pack R) r3 r5).mono ?_
  rintro e' w4 ⟨rfl, hd⟩
  exact ⟨by simp, vw, Holds.belowed h hd.below⟩
theorem xt_same' {v3 v5 : Value} (h : XT w wx bx bw Ax cx R (.rw v5 5 1 (nby R) (nums .u8 (pack R)) :: .rw v3 5 1 (nby R) (nums .u8 (pack R)) :: F)) :
    Calls Try.prog 21 #[v3, v5] wx fun e w' => e = .returned (.bool true) ∧ XT w w' bx bw Ax cx R (.rw v5 5 1 (nby R) (nums .u8 (pack R)) :: .rw v3 5 1 (nby R) (nums .u8 (pack R)) :: F) := by
  obtain ⟨vw, h⟩ := h
  have r3 := h.up5.rd
  have r5 := h.up4.rd
  rw [← pack_length R] at r3 r5
  refine (same wx _ _ (pack R) (pack R) r3 r5).mono ?_
  rintro e' w4 ⟨rfl, hd⟩
  exact ⟨by simp, vw, Holds.belowed h hd.below⟩
end

theorem q_len {l all : List ByteArray} {g : Int} {g2 k : Nat} (h : SInv l g all g2 k) : ∃ D : Nat, l.length = D ∧ IntKind.i64.wrap ((all.length : Int) - (g2 : Int)) = (D : Int) ∧ wrap64 ((all.length : Int) - (g2 : Int)) = (D : Int) ∧ (all.length : Int) - (g2 : Int) = (D : Int) ∧ IntKind.i64.wrap (D : Int) = (D : Int) := by
  obtain ⟨h1, h2, h3, h4, h5, h6, h7, h8⟩ := h
  obtain ⟨a, b, c, d⟩ := q_facts h3 (show all.length ≤ 1000 by omega)
  exact ⟨_, h8, a, b, c, d⟩

theorem g_bounds {l all : List ByteArray} {g : Int} {g2 k : Nat} (h : SInv l g all g2 k) : 0 ≤ g ∧ g ≤ 100000 := by
  obtain ⟨h1, h2, h3, h4, h5, h6, h7, h8⟩ := h
  omega
theorem sq_confirm' {w wx : World} {b1 b2 : Nat} {l all l' : List ByteArray} {g g' : Int} {g2 : Nat} {F : List Ent} {n : Int} {c : Nat} (h : SQ w wx b1 b2 l g all g2 F) (h0 : 0 ≤ g) (h1 : g ≤ 100000) (hl : l.length ≤ 32) (w0 : 0 ≤ n) (w1 : n < 4294967296) (hc : confN g l.length n = c) (hl' : l.drop c = l') (hg' : g + (c : Int) = g') :
    Calls Try.prog 32 #[.pointer (some ⟨b1, 0, none⟩), .int .u32 n] wx fun e' w' => e' = .returned (.int .i64 (c : Int)) ∧ SQ w w' b1 b2 l' g' all g2 F := by
  subst hl' hg'
  exact sq_confirm h h0 h1 hl w0 w1 hc
theorem sq_rconfirm' {w wx : World} {b1 b2 : Nat} {l all : List ByteArray} {g : Int} {g2 g2' : Nat} {F : List Ent} {n : Int} {c : Nat} (h : SQ w wx b1 b2 l g all g2 F) (hg : g2 ≤ all.length) (hl : all.length ≤ 300) (w0 : 0 ≤ n) (w1 : n < 4294967296) (hc : confN (g2 : Int) (all.length - g2) n = c) (hg' : g2 + c = g2') :
    Calls Try.prog 33 #[.pointer (some ⟨b2, 0, none⟩), .int .u32 n] wx fun e' w' => e' = .returned (.int .i64 (c : Int)) ∧ SQ w w' b1 b2 l g all g2' F := by
  subst hg'
  exact sq_rconfirm h hg hl w0 w1 hc

set_option maxHeartbeats 2000000 in
set_option maxRecDepth 100000 in
theorem streamSends_core (w : World) (v : Value) (ops : List SOp) (hv : RdL w v 3 (ops.map SOp.cells)) (hwf : ∀ o, o ∈ ops → o.wf) :
    Calls Try.prog 9 #[v] w fun e' w' => e' = .returned (.bool true) ∧ Below w.heap.size w w' := by
  obtain ⟨A, c, rfl, hc, hm, hr⟩ := sops_at hv
  have HR := Lib.hid hr
  have HWF := Lib.hid hwf
  clear hr hm hc hv hwf
  by_cases hbig : 200 < ops.length
  · have tb : decide ((200 : Int) < (ops.length : Int)) = true := by simp; omega
    clear hbig
    go_enter Try.func9, Try.ntmps9
    go_wp2_with fail
    refine (awake16 _).mono ?_
    rintro e' w1 ⟨rfl, h1⟩
    go_wp2_with fail
    refine (awake16 _).mono ?_
    rintro e' w3 ⟨rfl, h4⟩
    go_wp2_with fail
    go_ret
    exact ⟨rfl, h1.trans (h4.mono h1.size)⟩
  · have tb : decide ((200 : Int) < (ops.length : Int)) = false := by simp; omega
    have HLN : Hid (ops.length ≤ 200) := Nat.le_of_not_lt hbig
    clear hbig
    go_enter Try.func9, Try.ntmps9
    go_wp2_with fail
    refine (awake16 _).mono ?_
    rintro e' w1 ⟨rfl, h1⟩
    have h2 := (Holds.belowed (Holds.start w) h1).alloc [.int .u32 0, .slice none 0 0] 65
    have h3 := h2.alloc [.slice none 0 0, .int .i64 0] 68
    have hs : (w1.alloc (.cells [.int .u32 0, .slice none 0 0].toArray 65)).heap.size = w1.heap.size + 1 := by simp
    rw [hs] at h3
    obtain ⟨b1, hb1⟩ : ∃ b1, w1.heap.size = b1 := ⟨_, rfl⟩
    rw [hb1] at h3
    obtain ⟨b2, hb2⟩ : ∃ b2, b1 + 1 = b2 := ⟨_, rfl⟩
    rw [hb2] at h3
    have hq : SQ w ((w1.alloc (.cells [.int .u32 0, .slice none 0 0].toArray 65)).alloc (.cells [.slice none 0 0, .int .i64 0].toArray 68)) b1 b2 [] 0 [] 0 [] := ⟨.slice none 0 0, .slice none 0 0, ((h3.nilrow 9 1).nilqu 9).up3.perm (List.Perm.cons _ (List.Perm.cons _ (List.Perm.swap ..)))⟩
    have HQ := Lib.hid hq
    clear h1 h2 h3 hs hq
    go_wp2_with fail
    try rw [hb1]
    try rw [hb2]
    clear hb1 hb2
    go_loopw [3, 6] (fun n i wr => ∃ (k : Nat) (tot : Int) (l : List ByteArray) (g : Int) (all : List ByteArray) (g2 : Nat), k ≤ ops.length ∧ i = .int .i64 k ∧ n = .int .i64 tot ∧ SInv l g all g2 k ∧ SQ w wr b1 b2 l g all g2 []) (fun _ i _ => ops.length - (intOf i).toNat)
    case atStart => exact ⟨0, 0, [], 0, [], 0, Nat.zero_le _, rfl, rfl, ⟨rfl, rfl, by decide, by decide, by decide, fun t ht => by simp at ht, by decide, rfl⟩, HQ.out⟩
    case round =>
      obtain ⟨k, tot, l, g, all, g2, hk, rfl, rfl, hI, hS⟩ := hrel
      clear HQ
      have HI := Lib.hid hI
      have HS := Lib.hid hS
      clear hI hS
      by_cases hkn : k < ops.length
      · obtain ⟨o, ho⟩ : ∃ o, ops[k]? = some o := ⟨_, List.getElem?_eq_getElem hkn⟩
        obtain ⟨b, off, rfl, hlt, d0, d1, d2⟩ := HR.out k o ho
        obtain ⟨okd, os, on⟩ := o
        dsimp only at d0 d1 d2
        obtain ⟨hos, hon0, hon1⟩ := HWF.out _ (List.mem_of_getElem? ho)
        dsimp only at hos hon0 hon1
        obtain ⟨k0, k1, k2, k3⟩ := loop_facts hkn (Nat.le_trans HLN.out (by decide))
        obtain ⟨x, y1, y2⟩ := tot_facts tot os.size
        have hbS := SQ.below HS.out
        have e0 := (hbS.cell (p := ⟨b, off + k * 3, none⟩) hlt).trans d0
        have e1 := (hbS.cell (p := ⟨b, off + k * 3 + 1, none⟩) hlt).trans d1
        have HO := Lib.hid (And.intro hos (And.intro hon0 hon1))
        have HK2 := Lib.hid k2
        have AC : Hid (∀ wx, Below w.heap.size w wx → wx.cell? ⟨b, off + k * 3 + 1, none⟩ = some (.string os) ∧ wx.cell? ⟨b, off + k * 3 + 2, none⟩ = some (.int .u32 on)) := fun wx hb => ⟨(hb.cell (p := ⟨b, off + k * 3 + 1, none⟩) hlt).trans d1, (hb.cell (p := ⟨b, off + k * 3 + 2, none⟩) hlt).trans d2⟩
        have HN1 : Hid (k + 1 ≤ 200) := Nat.le_trans hkn HLN.out
        clear d0 d1 d2 ho hos hon0 hon1 hbS k2 k3
        by_cases hx : 10000 < x
        · have t1 : decide ((10000 : Int) < x) = true := decide_eq_true hx
          go_wp2_with fail
          go_ret
          exact ⟨rfl, SQ.below HS.out⟩
        · have t1 : decide ((10000 : Int) < x) = false := decide_eq_false hx
          by_cases hk1 : okd = 1
          · subst hk1
            go_wp2_with fail
            have hI := HI.out
            obtain ⟨er, her⟩ : ∃ er, qerr l os = er := ⟨_, rfl⟩
            obtain ⟨l', hl'⟩ : ∃ l', qnext l os = l' := ⟨_, rfl⟩
            obtain ⟨all', hall⟩ : ∃ all', (if er = 0 then all ++ [os] else all) = all' := ⟨_, rfl⟩
            have hin := hI.queue (t := os) HN1.out
            rw [her, hl', hall] at hin
            have HIN := Lib.hid hin
            have HER := Lib.hid her
            have HER2 : Hid (qerr (all.drop g2) os = er) := by show qerr (all.drop g2) os = er; rw [← hI.1]; exact her
            have HL := Lib.hid hl'
            have HALL := Lib.hid hall
            have H32 := Lib.hid hI.2.2.2.2.2.2.1
            have HG := Lib.hid hI.2.2.1
            have HA3 : Hid (all.length ≤ 300) := by have a := hI.2.2.2.1; have b := hI.2.2.2.2.1; show all.length ≤ 300; exact Nat.le_trans a (Nat.le_trans b (by decide))
            have HD3 : Hid (all.length - g2 ≤ 32) := by have a := hI.2.2.2.2.2.2.1; have b := hI.2.2.2.2.2.2.2; show all.length - g2 ≤ 32; rw [← b]; exact a
            have HX := Lib.hid (SQ.drew HS.out)
            have te : (er != er) = false := by simp
            clear hI her hl' hall hin e0 e1
            go_region_held3 (fun w' => w'.cell? ⟨b, off + k * 3 + 1, none⟩ = some (.string os)) (exact (AC.out _ (SQ.below HX.out)).1)
              (first
                | (go_at_call 25; with_reducible refine (sq_queue HX.out H32.out HER.out HL.out).mono ?_; rintro e' wn ⟨rfl, hx⟩; have HX := Lib.hid hx; clear hx)
                | (go_at_call 26; with_reducible refine (sq_rqueue HX.out HG.out HA3.out HD3.out HO.out.1 HER2.out HALL.out).mono ?_; rintro e' wn ⟨rfl, hx⟩; have HX := Lib.hid hx; clear hx)
                | fail)
            all_goals
              go_wp2_with fail
              have hI := HIN.out
              obtain ⟨va, v2a, hh⟩ := HX.out
              obtain ⟨A2, c2, rfl⟩ := hh.up3.slice
              obtain ⟨D, hD, z1, z2, z3, z4⟩ := q_len hI
              have E0 := cell_regrown (hh.up2.cell 0 rfl)
              have E1 := cell_regrown (hh.up2.cell 1 rfl)
              have tD : ((D : Int) != (D : Int)) = false := by simp
              have HC : Hid (∀ d os, Calls Try.prog 34 #[.pointer (some ⟨b1, 0, none⟩)] (grow (redrawn wn d) os) fun e w'' => e = .returned (.int .i64 (D : Int)) ∧ ∃ p : Regrown, w'' = grow (redrawn wn p.d) p.os) := fun d os => Calls.regrown_of (by
                have h' := Holds.belowed hh (below_regrown wn d os)
                have := swaits w w.heap.size _ b1 _ _ _ ⟨va, h'⟩
                rw [hD] at this
                exact this.mono fun _ _ h => ⟨h.1, by rw [h.2]; exact Below.refl _ _⟩)
              clear hh hI hD
              refine wp_region_quiet_below (by kernel_rfl) (by kernel_rfl) ?_
              repeat (go_big_quiet_step ((go_at_call 34; with_reducible exact HC.out _ _)))
              refine wpQuiet_nil ?_
              intro _ hw'
              obtain ⟨⟨dq, osq⟩, hw''⟩ := hw'
              subst hw''
              have hbx := below_regrown wn dq osq
              clear E0 E1
              generalize grow (redrawn wn dq) osq = w4 at *
              have h4 := SQ.then HX.out hbx
              have H4 := Lib.hid h4
              clear h4 hbx z1 z2 z3 z4 y1 y2
              go_wp2_with fail
              try rw [HK2.out]
              exact ⟨⟨k + 1, _, _, _, _, _, hkn, cast_succ k, rfl, HIN.out, H4.out⟩, succ_less hkn⟩
          · have q1 : (okd == 1) = false := beq_eq_false_iff_ne.2 hk1
            by_cases hk2 : okd = 2
            · subst hk2
              have hI := HI.out
              obtain ⟨v, v2, hh⟩ := HS.out
              obtain ⟨vw, hf⟩ := fresh hh 74
              have hr := rfresh hf 78
              have hsz : (wr.alloc (.cells #[.slice none 0 0, .int .i64 0] 74)).heap.size = wr.heap.size + 1 := by simp
              rw [hsz] at hr
              obtain ⟨vx, hr⟩ := hr
              obtain ⟨bw, hbw⟩ : ∃ bw, wr.heap.size = bw := ⟨_, rfl⟩
              rw [hbw] at hr
              obtain ⟨bx, hbx⟩ : ∃ bx, bw + 1 = bx := ⟨_, rfl⟩
              rw [hbx] at hr
              have hgb := g_bounds hI
              obtain ⟨R, hR⟩ : ∃ R, [] ++ sendB g l (sendN l) = R := ⟨_, rfl⟩
              have hfl : Fits l := by rw [hI.1]; exact drop_fits hI.2.2.2.2.2.1 g2
              have hR2 : [] ++ sendB (g2 : Int) (all.drop g2) (sendN (all.drop g2)) = R := by rw [← hI.1, ← hI.2.1]; exact hR
              have hRl : R.length ≤ 1000000000 := by rw [← hR, List.nil_append]; exact Nat.le_trans (sendB_length hfl) (by decide)
              have hp := sput w w.heap.size _ b1 bw _ g l _ [] hgb.1 (Int.lt_of_le_of_lt hgb.2 (by decide)) hfl ⟨v, vw, hr.perm (List.perm_append_comm (l₁ := [_, _]) (l₂ := [_, _, _, _, _, _]))⟩ (by decide)
              rw [hR] at hp
              have HP := Lib.hid hp
              have HR2 := Lib.hid hR2
              have HRL := Lib.hid hRl
              have HI3 := Lib.hid (And.intro hI.2.2.1 (And.intro (Nat.le_trans hI.2.2.2.1 (Nat.le_trans hI.2.2.2.2.1 (by decide : 200 ≤ 300))) hI.2.2.2.2.2.1))
              have HIN := Lib.hid (hI.next HN1.out)
              clear hI hh hf hr hsz hgb hR hfl hR2 hRl hp
              go_wp2_with fail
              try rw [hbw]
              try rw [hbx]
              clear e0 e1 hbw hbx
              refine HP.out.mono ?_
              rintro e' w5 ⟨rfl, v5, vw5, h5⟩
              have h6 := (h5.perm (List.perm_append_comm (l₁ := [_, _, _, _, _, _]) (l₂ := [_, _]))).perm (List.Perm.cons _ (List.Perm.cons _ (List.perm_append_comm (l₁ := [_, _, _, _]) (l₂ := [_, _]))))
              have hp := rsput w w.heap.size w5 b2 bx _ all g2 _ [] HI3.out.1 HI3.out.2.1 HI3.out.2.2 ⟨_, _, h6⟩ (by decide)
              rw [HR2.out] at hp
              have HP2 := Lib.hid hp
              clear hp h5 h6 HP
              go_wp2_with fail
              refine HP2.out.mono ?_
              rintro e' w6 ⟨rfl, v6, vx6, h6⟩
              obtain ⟨Ax, cx, rfl⟩ := h6.up1.slice
              have hx : XT w w6.drew bx bw Ax cx R [.st b1 [.int .u32 g, v5] 65, .qu v5 9 (strs l), .st b2 [v6, .int .i64 (g2 : Int)] 68, .rw v6 9 1 all.length (strs all)] :=
                ⟨vw5, (h6.perm (List.Perm.cons _ (List.Perm.cons _ (List.perm_append_comm (l₁ := [_, _]) (l₂ := [_, _, _, _]))))).drew⟩
              have HX := Lib.hid hx
              have te : ((R.length : Int) != (R.length : Int)) = false := by simp
              clear hx h6 HP2
              go_wp2_with fail
              go_region_held3 (fun w' => w'.cell? ⟨bx, 0, none⟩ = some (.slice Ax R.length cx)) (exact XT.cell HX.out)
                (first
                  | (go_at_call 29; with_reducible refine (xt_bytes HX.out HRL.out).mono ?_; rintro e' wn ⟨vn, rfl, hx⟩; have HX := Lib.hid hx; clear hx)
                  | (go_at_call 30; with_reducible refine (xt_rbytes HX.out HRL.out).mono ?_; rintro e' wn ⟨vn, rfl, hx⟩; have HX := Lib.hid hx; clear hx)
                  | (go_at_call 21; with_reducible refine (xt_same HX.out).mono ?_; rintro e' wn ⟨rfl, hx⟩; have HX := Lib.hid hx; clear hx)
                  | (go_at_call 21; with_reducible refine (xt_same' HX.out).mono ?_; rintro e' wn ⟨rfl, hx⟩; have HX := Lib.hid hx; clear hx)
                  | (go_at_call 31; with_reducible refine (xt_count HX.out).mono ?_; rintro e' wn ⟨rfl, hx⟩; have HX := Lib.hid hx; clear hx)
                  | fail)
              all_goals
                have hq : SQ w wn b1 b2 l g all g2 [] := by
                  obtain ⟨vw9, h9⟩ := HX.out
                  exact ⟨_, _, h9.tail.tail.tail.tail.tail.tail⟩
                have HX := Lib.hid hq
                clear hq
                go_wp2_with fail
                have hI := HIN.out
                obtain ⟨va, v2a, hh⟩ := HX.out
                obtain ⟨A2, c2, rfl⟩ := hh.up3.slice
                obtain ⟨D, hD, z1, z2, z3, z4⟩ := q_len hI
                have E0 := cell_regrown (hh.up2.cell 0 rfl)
                have E1 := cell_regrown (hh.up2.cell 1 rfl)
                have tD : ((D : Int) != (D : Int)) = false := by simp
                have HC : Hid (∀ d os, Calls Try.prog 34 #[.pointer (some ⟨b1, 0, none⟩)] (grow (redrawn wn d) os) fun e w'' => e = .returned (.int .i64 (D : Int)) ∧ ∃ p : Regrown, w'' = grow (redrawn wn p.d) p.os) := fun d os => Calls.regrown_of (by
                  have h' := Holds.belowed hh (below_regrown wn d os)
                  have := swaits w w.heap.size _ b1 _ _ _ ⟨va, h'⟩
                  rw [hD] at this
                  exact this.mono fun _ _ h => ⟨h.1, by rw [h.2]; exact Below.refl _ _⟩)
                clear hh hI hD
                refine wp_region_quiet_below (by kernel_rfl) (by kernel_rfl) ?_
                repeat (go_big_quiet_step ((go_at_call 34; with_reducible exact HC.out _ _)))
                refine wpQuiet_nil ?_
                intro _ hw'
                obtain ⟨⟨dq, osq⟩, hw''⟩ := hw'
                subst hw''
                have hbx := below_regrown wn dq osq
                clear E0 E1
                generalize grow (redrawn wn dq) osq = w4 at *
                have h4 := SQ.then HX.out hbx
                have H4 := Lib.hid h4
                clear h4 hbx z1 z2 z3 z4 y1 y2
                go_wp2_with fail
                try rw [HK2.out]
                exact ⟨⟨k + 1, _, _, _, _, _, hkn, cast_succ k, rfl, HIN.out, H4.out⟩, succ_less hkn⟩
            · have q2 : (okd == 2) = false := beq_eq_false_iff_ne.2 hk2
              by_cases hk3 : okd = 3
              · subst hk3
                go_wp2_with fail
                have hI := HI.out
                obtain ⟨cn, hcn⟩ : ∃ cn, confN g l.length on = cn := ⟨_, rfl⟩
                obtain ⟨l', hl'⟩ : ∃ l', l.drop cn = l' := ⟨_, rfl⟩
                obtain ⟨g', hg'⟩ : ∃ g', g + (cn : Int) = g' := ⟨_, rfl⟩
                obtain ⟨g2', hg2'⟩ : ∃ g2', g2 + cn = g2' := ⟨_, rfl⟩
                have hin := hI.conf HN1.out hcn
                rw [hl', hg', hg2'] at hin
                have HIN := Lib.hid hin
                have HCN := Lib.hid hcn
                have HCN2 : Hid (confN (g2 : Int) (all.length - g2) on = cn) := by show confN (g2 : Int) (all.length - g2) on = cn; rw [← hI.2.1, ← hI.2.2.2.2.2.2.2]; exact hcn
                have HL := Lib.hid hl'
                have HG1 := Lib.hid hg'
                have HG2 := Lib.hid hg2'
                have H32 := Lib.hid hI.2.2.2.2.2.2.1
                have HG := Lib.hid hI.2.2.1
                have HA3 : Hid (all.length ≤ 300) := by have a := hI.2.2.2.1; have b := hI.2.2.2.2.1; show all.length ≤ 300; exact Nat.le_trans a (Nat.le_trans b (by decide))
                have HGB := Lib.hid (g_bounds hI)
                have HX := Lib.hid (SQ.drew HS.out)
                have te : ((cn : Int) != (cn : Int)) = false := by simp
                clear hI hcn hl' hg' hg2' hin e0 e1
                go_region_held3 (fun w' => w'.cell? ⟨b, off + k * 3 + 2, none⟩ = some (.int .u32 on)) (exact (AC.out _ (SQ.below HX.out)).2)
                  (first
                    | (go_at_call 32; with_reducible refine (sq_confirm' HX.out HGB.out.1 HGB.out.2 H32.out HO.out.2.1 HO.out.2.2 HCN.out HL.out HG1.out).mono ?_; rintro e' wn ⟨rfl, hx⟩; have HX := Lib.hid hx; clear hx)
                    | (go_at_call 33; with_reducible refine (sq_rconfirm' HX.out HG.out HA3.out HO.out.2.1 HO.out.2.2 HCN2.out HG2.out).mono ?_; rintro e' wn ⟨rfl, hx⟩; have HX := Lib.hid hx; clear hx)
                    | fail)
                all_goals
                  go_wp2_with fail
                  have hI := HIN.out
                  obtain ⟨va, v2a, hh⟩ := HX.out
                  obtain ⟨A2, c2, rfl⟩ := hh.up3.slice
                  obtain ⟨D, hD, z1, z2, z3, z4⟩ := q_len hI
                  have E0 := cell_regrown (hh.up2.cell 0 rfl)
                  have E1 := cell_regrown (hh.up2.cell 1 rfl)
                  have tD : ((D : Int) != (D : Int)) = false := by simp
                  have HC : Hid (∀ d os, Calls Try.prog 34 #[.pointer (some ⟨b1, 0, none⟩)] (grow (redrawn wn d) os) fun e w'' => e = .returned (.int .i64 (D : Int)) ∧ ∃ p : Regrown, w'' = grow (redrawn wn p.d) p.os) := fun d os => Calls.regrown_of (by
                    have h' := Holds.belowed hh (below_regrown wn d os)
                    have := swaits w w.heap.size _ b1 _ _ _ ⟨va, h'⟩
                    rw [hD] at this
                    exact this.mono fun _ _ h => ⟨h.1, by rw [h.2]; exact Below.refl _ _⟩)
                  clear hh hI hD
                  refine wp_region_quiet_below (by kernel_rfl) (by kernel_rfl) ?_
                  repeat (go_big_quiet_step ((go_at_call 34; with_reducible exact HC.out _ _)))
                  refine wpQuiet_nil ?_
                  intro _ hw'
                  obtain ⟨⟨dq, osq⟩, hw''⟩ := hw'
                  subst hw''
                  have hbx := below_regrown wn dq osq
                  clear E0 E1
                  generalize grow (redrawn wn dq) osq = w4 at *
                  have h4 := SQ.then HX.out hbx
                  have H4 := Lib.hid h4
                  clear h4 hbx z1 z2 z3 z4 y1 y2
                  go_wp2_with fail
                  try rw [HK2.out]
                  exact ⟨⟨k + 1, _, _, _, _, _, hkn, cast_succ k, rfl, HIN.out, H4.out⟩, succ_less hkn⟩
              · have q3 : (okd == 3) = false := beq_eq_false_iff_ne.2 hk3
                have HIN := Lib.hid (HI.out.next HN1.out)
                have HX := HS
                clear HS
                go_wp2_with fail
                clear e0 e1
                have hI := HIN.out
                obtain ⟨va, v2a, hh⟩ := HX.out
                obtain ⟨A2, c2, rfl⟩ := hh.up3.slice
                obtain ⟨D, hD, z1, z2, z3, z4⟩ := q_len hI
                have E0 := cell_regrown (hh.up2.cell 0 rfl)
                have E1 := cell_regrown (hh.up2.cell 1 rfl)
                have tD : ((D : Int) != (D : Int)) = false := by simp
                have HC : Hid (∀ d os, Calls Try.prog 34 #[.pointer (some ⟨b1, 0, none⟩)] (grow (redrawn wr d) os) fun e w'' => e = .returned (.int .i64 (D : Int)) ∧ ∃ p : Regrown, w'' = grow (redrawn wr p.d) p.os) := fun d os => Calls.regrown_of (by
                  have h' := Holds.belowed hh (below_regrown wr d os)
                  have := swaits w w.heap.size _ b1 _ _ _ ⟨va, h'⟩
                  rw [hD] at this
                  exact this.mono fun _ _ h => ⟨h.1, by rw [h.2]; exact Below.refl _ _⟩)
                clear hh hI hD
                refine wp_region_quiet_below (by kernel_rfl) (by kernel_rfl) ?_
                repeat (go_big_quiet_step ((go_at_call 34; with_reducible exact HC.out _ _)))
                refine wpQuiet_nil ?_
                intro _ hw'
                obtain ⟨⟨dq, osq⟩, hw''⟩ := hw'
                subst hw''
                have hbx := below_regrown wr dq osq
                clear E0 E1
                generalize grow (redrawn wr dq) osq = w4 at *
                have h4 := SQ.then HX.out hbx
                have H4 := Lib.hid h4
                clear h4 hbx z1 z2 z3 z4 y1 y2
                go_wp2_with fail
                try rw [HK2.out]
                exact ⟨⟨k + 1, _, _, _, _, _, hkn, cast_succ k, rfl, HIN.out, H4.out⟩, succ_less hkn⟩
      · obtain rfl : k = ops.length := Nat.le_antisymm hk (Nat.le_of_not_lt hkn)
        go_wp2_with fail
        go_ret
        exact ⟨rfl, SQ.below HS.out⟩

set_option maxRecDepth 100000 in
theorem streamSends (w : World) {H : Type} {enc : TypeId × Value → H} {base base' : Nat} {sp : Nat → Bool} {held : Bool} {d : DataW H} {ps : List MemPlace} {r : Reach} (v : Value)
    (hok : Value.okWide Try.prog w r base' 60 v) (h : DataW.Trod enc Try.prog w base sp held 60 v d ps) :
    Calls Try.prog 9 #[v] w fun e' w' => e' = .returned (.bool true) ∧ Below w.heap.size w w' := by
  obtain ⟨l, hv, hwf⟩ := open_sops hok h
  exact streamSends_core w v l hv hwf

end Go.Proofs.Ytpnnalkihcemhaa.Str
