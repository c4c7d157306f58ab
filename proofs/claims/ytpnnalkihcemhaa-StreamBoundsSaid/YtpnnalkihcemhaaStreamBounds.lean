/- The law StreamBounds: a sender never keeps more than 32 lines, and a bundle never has more than seven: so many are given out by a receiver that has all ahead. For all scripts; no condition. Here: the walk. -/
import Derived.Test.YtpnnalkihcemhaaStrOpen
import Derived.Test.YtpnnalkihcemhaaRcvL
set_option linter.unusedVariables false
set_option linter.unusedSimpArgs false
namespace Go.Proofs.Ytpnnalkihcemhaa.Str
open Go.Sort Go.RowKit Go.Deep Go.WideShapes Go.ChangeShapes Go.Proofs.Ytpnnalkihcemhaa.Mem Go.Proofs.Ytpnnalkihcemhaa.Open Go.Proofs.Ytpnnalkihcemhaa.Bits Go.Proofs.Ytpnnalkihcemhaa.Wr Go.Proofs.Ytpnnalkihcemhaa.Num Go.Proofs.Ytpnnalkihcemhaa.Step Go.Proofs.YtpnnalkihcemhaaW.PrintWords

theorem tot_facts' (tot : Int) (s : Nat) : ∃ x : Int, IntKind.i64.wrap (tot + (s : Int)) = x ∧ wrap64 (tot + (s : Int)) = x :=
  ⟨_, rfl, (wrap_i64 _).symm⟩

/-- The sender at b1, the receiver at b2, which has all that was let go. -/
def SR (w wx : World) (b1 b2 : Nat) (l : List ByteArray) (g : Int) : Prop :=
  ∃ v, Holds w w.heap.size wx (.st b1 [.int .u32 g, v] 65 :: .qu v 9 (strs l) :: .st b2 [.int .u32 g] 85 :: [])
theorem SR.below {w wx : World} {b1 b2 : Nat} {l : List ByteArray} {g : Int} (h : SR w wx b1 b2 l g) : Below w.heap.size w wx := by obtain ⟨_, h⟩ := h; exact h.below

def BInv (l : List ByteArray) (g : Int) (k : Nat) : Prop := Good l ∧ l.length ≤ 32 ∧ 0 ≤ g ∧ g + (l.length : Int) ≤ (k : Int) ∧ k ≤ 200

theorem BInv.next {l : List ByteArray} {g : Int} {k : Nat} (h : BInv l g k) (hk : k + 1 ≤ 200) : BInv l g (k + 1) := by
  obtain ⟨h1, h2, h3, h4, h5⟩ := h
  exact ⟨h1, h2, h3, by omega, hk⟩
theorem BInv.queue {l : List ByteArray} {g : Int} {k : Nat} {t : ByteArray} (h : BInv l g k) (hk : k + 1 ≤ 200) : BInv (qnext l t) g (k + 1) := by
  have hle := qnext_le (t := t) h.2.1
  obtain ⟨h1, h2, h3, h4, h5⟩ := h
  by_cases he : qerr l t = 0
  · have hn : qnext l t = l ++ [t] := if_pos he
    rw [hn] at hle ⊢
    have hsz : 1 ≤ t.size ∧ t.size ≤ 60 := by
      unfold qerr at he
      split at he
      · assumption
      · cases he
    refine ⟨?_, hle, h3, by simp; omega, hk⟩
    intro u hu
    rcases List.mem_append.1 hu with hu | hu
    · exact h1 u hu
    · have : u = t := by simpa using hu
      rw [this]; exact hsz
  · have hn : qnext l t = l := if_neg he
    rw [hn]
    exact ⟨h1, h2, h3, by omega, hk⟩
theorem BInv.conf {l : List ByteArray} {g : Int} {k n : Nat} (h : BInv l g k) (hk : k + 1 ≤ 200) (hn : n ≤ l.length) : BInv (l.drop n) (g + (n : Int)) (k + 1) := by
  obtain ⟨h1, h2, h3, h4, h5⟩ := h
  refine ⟨fun t ht => h1 t (List.mem_of_mem_drop ht), by rw [List.length_drop]; omega, by omega, ?_, hk⟩
  rw [List.length_drop]
  omega
theorem conf_all {g : Int} {len n : Nat} (hn : n ≤ len) : confN g len (g + (n : Int) + 1) = n := by
  unfold confN
  split <;> omega
theorem n_cases {l : List ByteArray} {n D : Nat} (hn : sendN l = n) (hD : l.length = D) : (n = 7 ∧ (7 : Int) < (D : Int)) ∨ (n = 0 ∧ D = 0) ∨ (n = 1 ∧ D = 1) ∨ (n = 2 ∧ D = 2) ∨ (n = 3 ∧ D = 3) ∨ (n = 4 ∧ D = 4) ∨ (n = 5 ∧ D = 5) ∨ (n = 6 ∧ D = 6) ∨ (n = 7 ∧ D = 7) := by
  unfold sendN at hn
  rw [hD] at hn
  rcases Nat.lt_or_ge 7 D with h | h
  · exact .inl ⟨by omega, by omega⟩
  · right
    have e : n = D := by omega
    subst e
    have h8 : n = 0 ∨ n = 1 ∨ n = 2 ∨ n = 3 ∨ n = 4 ∨ n = 5 ∨ n = 6 ∨ n = 7 := by omega
    rcases h8 with h | h | h | h | h | h | h | h <;> simp [h]
theorem sr_queue {w wx : World} {b1 b2 : Nat} {l l' : List ByteArray} {g er : Int} {t : ByteArray} (h : SR w wx b1 b2 l g) (hl : l.length ≤ 32) (he : qerr l t = er) (hl' : qnext l t = l') :
    Calls Try.prog 25 #[.pointer (some ⟨b1, 0, none⟩), .string t] wx fun e' w' => e' = .returned (.int .i64 er) ∧ SR w w' b1 b2 l' g := by
  obtain ⟨v, h⟩ := h
  refine (squeue w w.heap.size wx b1 g l _ t ⟨v, h⟩ hl).mono ?_
  rintro e' w' ⟨rfl, v', h'⟩
  rw [he]
  rw [hl'] at h'
  exact ⟨rfl, v', h'⟩
theorem sr_waits {w wx : World} {b1 b2 D : Nat} {l : List ByteArray} {g : Int} (h : SR w wx b1 b2 l g) (hD : l.length = D) :
    Calls Try.prog 34 #[.pointer (some ⟨b1, 0, none⟩)] wx fun e' w' => e' = .returned (.int .i64 (D : Int)) ∧ w' = wx := by
  obtain ⟨v, h⟩ := h
  have := swaits w w.heap.size wx b1 g l _ ⟨v, h⟩
  rwa [hD] at this
theorem ge_one {n : Nat} (h : ¬ n = 0) : (1 : Int) ≤ (n : Int) := by omega
theorem ne_32 {D : Nat} (h : ¬ D = 32) : ((D : Int) == 32) = false := beq_eq_false_iff_ne.2 (by omega)
theorem w_range {g : Int} (h : 0 ≤ g ∧ g ≤ 200) : 0 ≤ g + 1 ∧ g + 1 < 4294967296 := by omega
theorem nby_le {R : List Bool} (h : R.length ≤ 4000) : nby R ≤ 100000000 := by unfold nby; omega
theorem sendB_len {g : Int} {l : List ByteArray} (h : Fits l) : (sendB g l (sendN l)).length ≤ 4000 := by
  have h1 := linesB_length h (sendN l)
  have h2 : sendN l ≤ 7 := by unfold sendN; omega
  unfold sendB
  rw [List.length_append, bitsOf_length]
  split
  · simp
  · rw [List.length_append, bitsOf_length]; omega
theorem d_facts {D : Nat} (h : D ≤ 32) : decide ((32 : Int) < (D : Int)) = false ∧ ¬ (32 : Int) < (D : Int) := by
  refine ⟨?_, by omega⟩
  simp; omega
theorem b_facts {l : List ByteArray} {g : Int} {k : Nat} (h : BInv l g k) : 0 ≤ g ∧ g ≤ 200 := by
  obtain ⟨h1, h2, h3, h4, h5⟩ := h
  omega

set_option maxHeartbeats 4000000 in
set_option maxRecDepth 100000 in
theorem streamBounds_core (w : World) (v : Value) (ops : List SOp) (hv : RdL w v 3 (ops.map SOp.cells)) (hwf : ∀ o, o ∈ ops → o.wf) :
    Calls Try.prog 13 #[v] w fun e' w' => e' = .returned (.bool true) ∧ Below w.heap.size w w' := by
  obtain ⟨A, c, rfl, hc, hm, hr⟩ := sops_at hv
  have HR := Lib.hid hr
  have HWF := Lib.hid hwf
  clear hr hm hc hv hwf
  by_cases hbig : 200 < ops.length
  · have tb : decide ((200 : Int) < (ops.length : Int)) = true := by simp; omega
    clear hbig
    go_enter Try.func13, Try.ntmps13
    go_wp2_with fail
    refine (awake16 _).mono ?_
    rintro e' w1 ⟨rfl, h1⟩
    go_wp2_with fail
    refine (awake16 _).mono ?_
    rintro e' w3 ⟨rfl, h4⟩
    go_wp2_with fail
    go_ret
    exact ⟨rfl, h1.trans (h4.mono h1.size)⟩
  · have tb : decide ((200 : Int) < (ops.length : Int)) = false := by simp; omega
    have HLN : Hid (ops.length ≤ 200) := Nat.le_of_not_lt hbig
    clear hbig
    go_enter Try.func13, Try.ntmps13
    go_wp2_with fail
    refine (awake16 _).mono ?_
    rintro e' w1 ⟨rfl, h1⟩
    have h2 := (Holds.belowed (Holds.start w) h1).alloc [.int .u32 0, .slice none 0 0] 65
    have h3 := h2.alloc [.int .u32 0] 85
    have hs : (w1.alloc (.cells [.int .u32 0, .slice none 0 0].toArray 65)).heap.size = w1.heap.size + 1 := by simp
    rw [hs] at h3
    obtain ⟨b1, hb1⟩ : ∃ b1, w1.heap.size = b1 := ⟨_, rfl⟩
    rw [hb1] at h3
    obtain ⟨b2, hb2⟩ : ∃ b2, b1 + 1 = b2 := ⟨_, rfl⟩
    rw [hb2] at h3
    have hq : SR w ((w1.alloc (.cells [.int .u32 0, .slice none 0 0].toArray 65)).alloc (.cells [.int .u32 0].toArray 85)) b1 b2 [] 0 := ⟨.slice none 0 0, (h3.nilqu 9).up2⟩
    have HQ := Lib.hid hq
    clear h1 h2 h3 hs hq
    go_wp2_with fail
    try rw [hb1]
    try rw [hb2]
    clear hb1 hb2
    go_loopw [5, 6] (fun n i wr => ∃ (k : Nat) (tot : Int) (l : List ByteArray) (g : Int), k ≤ ops.length ∧ i = .int .i64 k ∧ n = .int .i64 tot ∧ BInv l g k ∧ SR w wr b1 b2 l g) (fun _ i _ => ops.length - (intOf i).toNat)
    case atStart => exact ⟨0, 0, [], 0, Nat.zero_le _, rfl, rfl, ⟨fun t ht => by simp at ht, by decide, by decide, by decide, by decide⟩, HQ.out⟩
    case round =>
      obtain ⟨k, tot, l, g, hk, rfl, rfl, hI, hS⟩ := hrel
      clear HQ
      have HI := Lib.hid hI
      have HS := Lib.hid hS
      obtain ⟨D, hD⟩ : ∃ D, l.length = D := ⟨_, rfl⟩
      have HD := Lib.hid hD
      clear hI hS hD
      by_cases hkn : k < ops.length
      · obtain ⟨o, ho⟩ : ∃ o, ops[k]? = some o := ⟨_, List.getElem?_eq_getElem hkn⟩
        obtain ⟨b, off, rfl, hlt, d0, d1, d2⟩ := HR.out k o ho
        obtain ⟨okd, os, on⟩ := o
        dsimp only at d0 d1 d2
        obtain ⟨k0, k1, k2, k3⟩ := loop_facts hkn (Nat.le_trans HLN.out (by decide))
        obtain ⟨x, y1, y2⟩ := tot_facts' tot os.size
        have hbS := SR.below HS.out
        have e0 := (hbS.cell (p := ⟨b, off + k * 3, none⟩) hlt).trans d0
        have e1 := (hbS.cell (p := ⟨b, off + k * 3 + 1, none⟩) hlt).trans d1
        have HK2 := Lib.hid k2
        have AC : Hid (∀ wx, Below w.heap.size w wx → wx.cell? ⟨b, off + k * 3 + 1, none⟩ = some (.string os)) := fun wx hb => (hb.cell (p := ⟨b, off + k * 3 + 1, none⟩) hlt).trans d1
        have HN1 : Hid (k + 1 ≤ 200) := Nat.le_trans hkn HLN.out
        have hwt := (by obtain ⟨vs, hh⟩ := HS.out; exact swaits w w.heap.size wr b1 g l _ ⟨vs, hh⟩ : Calls Try.prog 34 #[.pointer (some ⟨b1, 0, none⟩)] wr fun e' w' => e' = .returned (.int .i64 (l.length : Int)) ∧ w' = wr)
        rw [HD.out] at hwt
        have HWT := Lib.hid hwt
        clear d0 d1 d2 ho hbS k2 k3 hwt
        by_cases hx : 10000 < x
        · have t1 : decide ((10000 : Int) < x) = true := decide_eq_true hx
          go_wp2_with fail
          go_ret
          exact ⟨rfl, SR.below HS.out⟩
        · have t1 : decide ((10000 : Int) < x) = false := decide_eq_false hx
          by_cases hk1 : okd = 1
          · subst hk1
            go_upto_region 14 with (fail)
            clear y1 y2
            by_cases h32 : D = 32
            · have t32 : ((D : Int) == 32) = true := by rw [h32]; rfl
              have hl32 : l.length = 32 := HD.out.trans h32
              by_cases hz : os.size = 0
              · have hzi : (os.size : Int) = 0 := by rw [hz]; rfl
                have her : qerr l os = 1 := by unfold qerr; rw [if_neg (fun h => by rw [hz] at h; exact absurd h.1 (by decide))]
                have hq := sr_queue HS.out HI.out.2.1 her rfl
                have HQU := Lib.hid hq
                have HIN := Lib.hid (HI.out.queue (t := os) HN1.out)
                clear her hq hz h32 hl32
                go_wp2_with fail
                refine HWT.out.mono ?_
                rintro e' w4 ⟨rfl, rfl⟩
                go_wp2_with fail
                refine HQU.out.mono ?_
                rintro e' w5 ⟨rfl, hx⟩
                have HX := Lib.hid hx
                clear e1
                have e1 := AC.out _ (SR.below hx)
                clear hx HQU
                obtain ⟨l', hl'⟩ : ∃ l', qnext l os = l' := ⟨_, rfl⟩
                rw [hl'] at HX HIN
                clear hl'
                obtain ⟨D2, hD2⟩ : ∃ D2, l'.length = D2 := ⟨_, rfl⟩
                obtain ⟨td1, td2⟩ := d_facts (show D2 ≤ 32 from hD2 ▸ HIN.out.2.1)
                have hw2 := sr_waits HX.out hD2
                have HW2 := Lib.hid hw2
                clear hw2 hD2
                go_wp2_with fail
                refine HW2.out.mono ?_
                rintro e' w9 ⟨rfl, rfl⟩
                go_wp2_with fail
                try rw [HK2.out]
                exact ⟨⟨k + 1, _, _, _, hkn, cast_succ k, rfl, HIN.out, HX.out⟩, succ_less hkn⟩
              · by_cases h60 : os.size ≤ 60
                · have s1 : (1 : Int) ≤ (os.size : Int) := ge_one hz
                  have s2 : (os.size : Int) ≤ 60 := Int.ofNat_le.2 h60
                  have her : qerr l os = 7 := by unfold qerr; rw [if_pos ⟨Nat.pos_of_ne_zero hz, h60⟩, if_pos hl32]
                  have hq := sr_queue HS.out HI.out.2.1 her rfl
                  have HQU := Lib.hid hq
                  have HIN := Lib.hid (HI.out.queue (t := os) HN1.out)
                  clear her hq hz h60 h32 hl32
                  go_wp2_with fail
                  refine HWT.out.mono ?_
                  rintro e' w4 ⟨rfl, rfl⟩
                  go_wp2_with fail
                  refine HQU.out.mono ?_
                  rintro e' w5 ⟨rfl, hx⟩
                  have HX := Lib.hid hx
                  clear e1
                  have e1 := AC.out _ (SR.below hx)
                  clear hx HQU
                  obtain ⟨l', hl'⟩ : ∃ l', qnext l os = l' := ⟨_, rfl⟩
                  rw [hl'] at HX HIN
                  clear hl'
                  obtain ⟨D2, hD2⟩ : ∃ D2, l'.length = D2 := ⟨_, rfl⟩
                  obtain ⟨td1, td2⟩ := d_facts (show D2 ≤ 32 from hD2 ▸ HIN.out.2.1)
                  have hw2 := sr_waits HX.out hD2
                  have HW2 := Lib.hid hw2
                  clear hw2 hD2
                  go_wp2_with fail
                  refine HW2.out.mono ?_
                  rintro e' w9 ⟨rfl, rfl⟩
                  go_wp2_with fail
                  try rw [HK2.out]
                  exact ⟨⟨k + 1, _, _, _, hkn, cast_succ k, rfl, HIN.out, HX.out⟩, succ_less hkn⟩
                · have s1 : (1 : Int) ≤ (os.size : Int) := ge_one hz
                  have s2 : ¬ (os.size : Int) ≤ 60 := fun h => h60 (Int.ofNat_le.1 h)
                  have her : qerr l os = 1 := by unfold qerr; rw [if_neg (fun h => h60 h.2)]
                  have hq := sr_queue HS.out HI.out.2.1 her rfl
                  have HQU := Lib.hid hq
                  have HIN := Lib.hid (HI.out.queue (t := os) HN1.out)
                  clear her hq hz h60 h32 hl32
                  go_wp2_with fail
                  refine HWT.out.mono ?_
                  rintro e' w4 ⟨rfl, rfl⟩
                  go_wp2_with fail
                  refine HQU.out.mono ?_
                  rintro e' w5 ⟨rfl, hx⟩
                  have HX := Lib.hid hx
                  clear e1
                  have e1 := AC.out _ (SR.below hx)
                  clear hx HQU
                  obtain ⟨l', hl'⟩ : ∃ l', qnext l os = l' := ⟨_, rfl⟩
                  rw [hl'] at HX HIN
                  clear hl'
                  obtain ⟨D2, hD2⟩ : ∃ D2, l'.length = D2 := ⟨_, rfl⟩
                  obtain ⟨td1, td2⟩ := d_facts (show D2 ≤ 32 from hD2 ▸ HIN.out.2.1)
                  have hw2 := sr_waits HX.out hD2
                  have HW2 := Lib.hid hw2
                  clear hw2 hD2
                  go_wp2_with fail
                  refine HW2.out.mono ?_
                  rintro e' w9 ⟨rfl, rfl⟩
                  go_wp2_with fail
                  try rw [HK2.out]
                  exact ⟨⟨k + 1, _, _, _, hkn, cast_succ k, rfl, HIN.out, HX.out⟩, succ_less hkn⟩
            · have t32 : ((D : Int) == 32) = false := ne_32 h32
              have hl32 : ¬ l.length = 32 := fun h => h32 (HD.out.symm.trans h)
              by_cases hg : 1 ≤ os.size ∧ os.size ≤ 60
              · have her : qerr l os = 0 := by unfold qerr; rw [if_pos hg, if_neg hl32]
                have hq := sr_queue HS.out HI.out.2.1 her rfl
                have HQU := Lib.hid hq
                have HIN := Lib.hid (HI.out.queue (t := os) HN1.out)
                clear her hq hg h32 hl32
                go_wp2_with fail
                refine HWT.out.mono ?_
                rintro e' w4 ⟨rfl, rfl⟩
                go_wp2_with fail
                refine HQU.out.mono ?_
                rintro e' w5 ⟨rfl, hx⟩
                have HX := Lib.hid hx
                clear e1
                have e1 := AC.out _ (SR.below hx)
                clear hx HQU
                obtain ⟨l', hl'⟩ : ∃ l', qnext l os = l' := ⟨_, rfl⟩
                rw [hl'] at HX HIN
                clear hl'
                obtain ⟨D2, hD2⟩ : ∃ D2, l'.length = D2 := ⟨_, rfl⟩
                obtain ⟨td1, td2⟩ := d_facts (show D2 ≤ 32 from hD2 ▸ HIN.out.2.1)
                have hw2 := sr_waits HX.out hD2
                have HW2 := Lib.hid hw2
                clear hw2 hD2
                go_wp2_with fail
                refine HW2.out.mono ?_
                rintro e' w9 ⟨rfl, rfl⟩
                go_wp2_with fail
                try rw [HK2.out]
                exact ⟨⟨k + 1, _, _, _, hkn, cast_succ k, rfl, HIN.out, HX.out⟩, succ_less hkn⟩
              · have her : qerr l os = 1 := by unfold qerr; rw [if_neg hg]
                have hq := sr_queue HS.out HI.out.2.1 her rfl
                have HQU := Lib.hid hq
                have HIN := Lib.hid (HI.out.queue (t := os) HN1.out)
                clear her hq hg h32 hl32
                go_wp2_with fail
                refine HWT.out.mono ?_
                rintro e' w4 ⟨rfl, rfl⟩
                go_wp2_with fail
                refine HQU.out.mono ?_
                rintro e' w5 ⟨rfl, hx⟩
                have HX := Lib.hid hx
                clear e1
                have e1 := AC.out _ (SR.below hx)
                clear hx HQU
                obtain ⟨l', hl'⟩ : ∃ l', qnext l os = l' := ⟨_, rfl⟩
                rw [hl'] at HX HIN
                clear hl'
                obtain ⟨D2, hD2⟩ : ∃ D2, l'.length = D2 := ⟨_, rfl⟩
                obtain ⟨td1, td2⟩ := d_facts (show D2 ≤ 32 from hD2 ▸ HIN.out.2.1)
                have hw2 := sr_waits HX.out hD2
                have HW2 := Lib.hid hw2
                clear hw2 hD2
                go_wp2_with fail
                refine HW2.out.mono ?_
                rintro e' w9 ⟨rfl, rfl⟩
                go_wp2_with fail
                try rw [HK2.out]
                exact ⟨⟨k + 1, _, _, _, hkn, cast_succ k, rfl, HIN.out, HX.out⟩, succ_less hkn⟩
          · have q1 : (okd == 1) = false := beq_eq_false_iff_ne.2 hk1
            by_cases hk2 : okd = 2
            · subst hk2
              have hI := HI.out
              obtain ⟨hg0, hg2⟩ := b_facts hI
              obtain ⟨vs, hh⟩ := HS.out
              obtain ⟨n, hn⟩ : ∃ n, sendN l = n := ⟨_, rfl⟩
              have hnl : n ≤ l.length := by rw [← hn]; exact Nat.min_le_left _ _
              obtain ⟨R, hR⟩ : ∃ R, [] ++ sendB g l (sendN l) = R := ⟨_, rfl⟩
              have hrs := recv_send g l hg0 (Int.le_trans hg2 (by decide)) hI.1
              have hRl : R.length ≤ 4000 := by rw [← hR, List.nil_append]; exact sendB_len hI.1.fits
              rw [show sendB g l (sendN l) = R by rw [← hR, List.nil_append], hn] at hrs
              obtain ⟨bw, hbw⟩ : ∃ bw, wr.heap.size = bw := ⟨_, rfl⟩
              have hf := fresh hh 74
              rw [hbw] at hf
              obtain ⟨vw, hf⟩ := hf
              have hp := sput w w.heap.size _ b1 bw _ g l _ [] hg0 (Int.lt_of_le_of_lt hg2 (by decide)) hI.1.fits ⟨vs, vw, hf⟩ (by decide)
              rw [hR] at hp
              have HP := Lib.hid hp
              have HRS := Lib.hid hrs
              have HRL := Lib.hid hRl
              have HNL := Lib.hid hnl
              have HN := Lib.hid hn
              have HGB := Lib.hid (And.intro hg0 hg2)
              obtain ⟨g', hg'⟩ : ∃ g' : Int, g + (n : Int) = g' := ⟨_, rfl⟩
              obtain ⟨l', hl'⟩ : ∃ l', l.drop n = l' := ⟨_, rfl⟩
              have HG' := Lib.hid hg'
              have HL' := Lib.hid hl'
              have hin := hI.conf HN1.out hnl
              rw [hg', hl'] at hin
              have HIN := Lib.hid hin
              clear hI hg0 hg2 hh hn hnl hR hrs hRl hf hp hg' hl' hin
              go_wp2_with fail
              try rw [hbw]
              clear hbw e0 e1
              refine HP.out.mono ?_
              rintro e' w5 ⟨rfl, v5, h5⟩
              have hp := Wr.bytes _ _ _ _ _ _ _ h5 (Nat.le_trans HRL.out (by decide))
              have HP2 := Lib.hid hp
              clear hp h5 HP
              go_wp2_with fail
              refine HP2.out.mono ?_
              rintro e' w6 ⟨vb, rfl, vw6, h6⟩
              have hrd := h6.up2.rd
              rw [← pack_length R] at hrd
              have hok : bytesOk (pack R) := ⟨by rw [pack_length]; exact nby_le HRL.out, pack_byte R⟩
              have hp := rnew w w.heap.size w6 _ vb (pack R) h6.tail.tail.tail.up2 hrd hok
              have HP3 := Lib.hid hp
              have HOK := Lib.hid hok
              clear hp h6 hrd hok HP2
              go_wp2_with fail
              refine HP3.out.mono ?_
              rintro e' w7 ⟨rb, rfl, h7⟩
              have hp := rcv w w.heap.size w7 b2 rb g (pack R) _ h7 HOK.out HGB.out.1 (Int.le_trans HGB.out.2 (by decide))
              rw [HRS.out] at hp
              dsimp only at hp
              have HP4 := Lib.hid hp
              clear hp h7 HP3
              go_wp2_with fail
              refine HP4.out.mono ?_
              rintro e' w8 ⟨vo, rfl, h8⟩
              obtain ⟨Ao, co, rfl, _⟩ := sslice h8.up1
              have htl : (l.take n).length = n := by rw [List.length_take]; exact Nat.min_eq_left HNL.out
              rw [htl] at h8 ⊢
              rw [HG'.out] at h8
              have hw3 := swaits w w.heap.size w8 b1 g l _ ⟨v5, h8.up3.up3⟩
              rw [HD.out] at hw3
              have HW3 := Lib.hid hw3
              have hgb : 0 ≤ g' ∧ g' ≤ 200 := b_facts HIN.out
              have hwa := swants w w.heap.size w8 b2 g' _ _ h8 hgb.1 (Int.lt_of_le_of_lt hgb.2 (by decide))
              have HWA := Lib.hid hwa
              have hcf := sconfirm w w.heap.size w8 b1 g (g' + 1) l _ ⟨v5, h8.up3.up3⟩ HGB.out.1 (Int.le_trans HGB.out.2 (by decide)) (HI.out.2.1) (w_range hgb).1 (w_range hgb).2
              rw [← HG'.out, conf_all HNL.out, HG'.out, HL'.out] at hcf
              have HCF := Lib.hid hcf
              have hcs := n_cases HN.out HD.out
              have tn : ((n : Int) != (n : Int)) = false := by simp
              clear h8 hw3 hgb hwa hcf htl HP4
              rcases hcs with ⟨rfl, t7⟩ | ⟨rfl, rfl⟩ | ⟨rfl, rfl⟩ | ⟨rfl, rfl⟩ | ⟨rfl, rfl⟩ | ⟨rfl, rfl⟩ | ⟨rfl, rfl⟩ | ⟨rfl, rfl⟩ | ⟨rfl, rfl⟩
              all_goals
                go_wp2_with fail
                refine HW3.out.mono ?_
                rintro e' w10 ⟨rfl, rfl⟩
                go_wp2_with fail
                refine HWA.out.mono ?_
                rintro e' w11 ⟨rfl, rfl⟩
                go_wp2_with fail
                refine HCF.out.mono ?_
                rintro e' w12 ⟨rfl, v12, h12⟩
                have hx : SR w w12 b1 b2 l' g' := ⟨v12, h12.up3.tail⟩
                have HX := Lib.hid hx
                clear hx h12 HCF HWA HW3
                obtain ⟨D2, hD2⟩ : ∃ D2, l'.length = D2 := ⟨_, rfl⟩
                obtain ⟨td1, td2⟩ := d_facts (show D2 ≤ 32 from hD2 ▸ HIN.out.2.1)
                have hw2 := sr_waits HX.out hD2
                have HW2 := Lib.hid hw2
                clear hw2 hD2
                go_wp2_with fail
                refine HW2.out.mono ?_
                rintro e' w13 ⟨rfl, rfl⟩
                go_wp2_with fail
                try rw [HK2.out]
                exact ⟨⟨k + 1, _, _, _, hkn, cast_succ k, rfl, HIN.out, HX.out⟩, succ_less hkn⟩
            · have q2 : (okd == 2) = false := beq_eq_false_iff_ne.2 hk2
              obtain ⟨td1, td2⟩ := d_facts (show D ≤ 32 from HD.out ▸ HI.out.2.1)
              go_wp2_with fail
              refine HWT.out.mono ?_
              rintro e' w4 ⟨rfl, rfl⟩
              clear e0 e1 y1 y2
              go_wp2_with fail
              try rw [HK2.out]
              exact ⟨⟨k + 1, _, _, _, hkn, cast_succ k, rfl, HI.out.next HN1.out, HS.out⟩, succ_less hkn⟩
      · obtain rfl : k = ops.length := Nat.le_antisymm hk (Nat.le_of_not_lt hkn)
        go_wp2_with fail
        go_ret
        exact ⟨rfl, SR.below HS.out⟩

set_option maxRecDepth 100000 in
theorem streamBounds (w : World) {H : Type} {enc : TypeId × Value → H} {base base' : Nat} {sp : Nat → Bool} {held : Bool} {d : DataW H} {ps : List MemPlace} {r : Reach} (v : Value)
    (hok : Value.okWide Try.prog w r base' 60 v) (h : DataW.Trod enc Try.prog w base sp held 60 v d ps) :
    Calls Try.prog 13 #[v] w fun e' w' => e' = .returned (.bool true) ∧ Below w.heap.size w w' := by
  obtain ⟨l, hv, hwf⟩ := open_sops hok h
  exact streamBounds_core w v l hv hwf

end Go.Proofs.Ytpnnalkihcemhaa.Str
