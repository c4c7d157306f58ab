/- A row of commands put, by the program. -/
import Derived.Test.YtioogmicdonbpaaRow
import Derived.Test.YtioogmicdonbpaaCmdB
import Derived.Test.YtioogmicdonbpaaWr
set_option linter.unusedVariables false
set_option linter.unusedSimpArgs false
namespace Go.Proofs.Ytioogmicdonbpaa.Cmds
open Go.Sort Go.RowKit Go.Proofs.Ytioogmicdonbpaa.Mem Go.Proofs.Ytioogmicdonbpaa.Open Go.Proofs.Ytioogmicdonbpaa.Num Go.Proofs.Ytioogmicdonbpaa.Bits Go.Proofs.Ytioogmicdonbpaa.Wr

set_option maxHeartbeats 2000000 in
theorem cput (W w : World) (b1 : Nat) (e : TypeId) (L : List Bool) (F : List Ent) (v : Value) (l : List Cmd) (hw : HasW W W.heap.size w b1 e L F) (hv : RdL W v 6 (l.map Cmd.cells)) (hwf : ∀ c, c ∈ l → c.wf) (hL : L.length + 1000 ≤ 1000000000) :
    Calls Try.prog 14 #[.pointer (some ⟨b1, 0, none⟩), v] w fun e' w' => e' = .returned (.bool (rowB l)) ∧ HasW W W.heap.size w' b1 e (if rowB l = true then L ++ rowBits l else L) F := by
  have hrw := row w v l (by obtain ⟨_, h⟩ := hw; exact RdL.below hv h.below) hwf
  obtain ⟨A, c, rfl, hc, hm, hr⟩ := cells_at hv
  have HR := Lib.hid hr
  have HWF := Lib.hid hwf
  have HW := Lib.hid hw
  have HROW := Lib.hid hrw
  clear hr hv hwf hw hrw
  cases hrb : rowB l with
  | false =>
    rw [hrb] at HROW
    go_enter Try.func14, Try.ntmps14
    go_wp2_with fail
    refine HROW.out.mono ?_
    rintro e' w1 ⟨rfl, h1⟩
    go_wp2_with fail
    go_ret
    obtain ⟨v1, hH⟩ := HW.out
    exact ⟨rfl, v1, by simpa using Holds.belowed hH h1⟩
  | true =>
    rw [hrb] at HROW
    have hir := (rowB_true l).1 hrb
    have hll := hir.1
    have HIR := Lib.hid hir
    clear hir
    obtain ⟨hl1, hl8⟩ := hll
    obtain ⟨b, off, rfl, hlt, z0, _⟩ := HR.out 0 (by omega)
    have tl1 : IntKind.i64.wrap ((l.length : Int) - 1) = (l.length : Int) - 1 := i64a _ (by omega) (by omega)
    have tl2 : IntKind.u64.wrap ((l.length : Int) - 1) = (l.length : Int) - 1 := u64a _ (by omega) (by omega)
    have hcz := HWF.out _ (el_mem l 0 (by omega))
    have tn : IntKind.u64.wrap (el l 0).num = (el l 0).num := u64a _ hcz.1.1 hcz.1.2
    have z0' : W.cell? ⟨b, off, none⟩ = some (.int .u32 (el l 0).num) := by simpa using z0
    have lz : (0 : Int) < (l.length : Int) := by omega
    go_enter Try.func14, Try.ntmps14
    clear z0
    go_wp2_with fail
    refine HROW.out.mono ?_
    rintro e' w1 ⟨rfl, h1⟩
    have h2 : HasW W W.heap.size w1 b1 e L F := by
      obtain ⟨v1, hH⟩ := HW.out
      exact ⟨v1, Holds.belowed hH h1⟩
    clear h1
    have H2 := Lib.hid h2
    clear h2
    go_wp2_with fail
    refine (put W W.heap.size _ _ e L F ((l.length : Int) - 1) 3 H2.out (by omega) (by omega) (by decide) (by decide) (by omega)).mono ?_
    rintro e' w2 ⟨rfl, v2, h3⟩
    have z1 := (h3.below.cell (p := ⟨b, off, none⟩) hlt).trans z0'
    have H3 := Lib.hid h3
    clear h3 H2
    go_wp2_with fail
    refine (put W W.heap.size _ _ e _ F (el l 0).num 32 ⟨v2, H3.out⟩ hcz.1.1 (by have := hcz.1.2; omega) (by decide) (by decide) (by simp [bitsOf_length]; omega)).mono ?_
    rintro e' w3 ⟨rfl, h4⟩
    have h5 : HasW W W.heap.size w3 b1 e (L ++ headBits l) F := by
      have e1 : L ++ headBits l = L ++ bitsOf ((l.length : Int) - 1) (Int.toNat 3) ++ bitsOf (el l 0).num (Int.toNat 32) := by
        rw [List.append_assoc]; rfl
      rw [e1]; exact h4
    have H5 := Lib.hid h5
    clear h4 h5 H3 z1 z0' tl1 tl2 tn hcz
    go_wp2_with fail
    go_loopw [25] (fun i wr => ∃ k : Nat, k ≤ l.length ∧ i = .int .i64 k ∧ HasW W W.heap.size wr b1 e (L ++ headBits l ++ (l.take k).flatMap cmdBits) F)
      (fun i _ => l.length - (intOf i).toNat)
    case atStart => exact ⟨0, Nat.zero_le _, rfl, by simpa using H5.out⟩
    case round =>
      obtain ⟨k, hk, rfl, v1, hH⟩ := hrel
      clear H5
      have hlen : (L ++ headBits l ++ (l.take k).flatMap cmdBits).length ≤ L.length + 491 := by
        have h1 := cmds_le (l.take k)
        have h2 := headBits_length l
        rw [List.length_take] at h1
        simp only [List.length_append]
        omega
      by_cases hkn : k < l.length
      · obtain ⟨b', off', hA, _, c0, c1, c2, c3, c4, c5⟩ := HR.out k hkn
        obtain ⟨rfl, rfl⟩ : b = b' ∧ off = off' := by injection hA with hA; injection hA with h1 h2 h3; exact ⟨h1, h2⟩
        clear hA
        have hcw := HWF.out _ (el_mem l k hkn)
        have hfm := (HIR.out.2 k hkn).1
        have HN := Lib.hid (take_cmds l k hkn)
        generalize hLL : L ++ headBits l ++ (l.take k).flatMap cmdBits = LL at *
        have HLL := Lib.hid hLL
        clear hLL
        have e0 := (hH.below.cell (p := ⟨b, off + k * 6, none⟩) hlt).trans c0
        have e1 := (hH.below.cell (p := ⟨b, off + k * 6 + 1, none⟩) hlt).trans c1
        have e2 := (hH.below.cell (p := ⟨b, off + k * 6 + 2, none⟩) hlt).trans c2
        have e3 := (hH.below.cell (p := ⟨b, off + k * 6 + 3, none⟩) hlt).trans c3
        have e4 := (hH.below.cell (p := ⟨b, off + k * 6 + 4, none⟩) hlt).trans c4
        have e5 := (hH.below.cell (p := ⟨b, off + k * 6 + 5, none⟩) hlt).trans c5
        have k0 : (0 : Int) ≤ (k : Int) := by omega
        have k1 : (k : Int) < (l.length : Int) := by omega
        have hx : -127 ≤ (el l k).mx ∧ (el l k).mx ≤ 127 := ⟨hfm.2.1, hcw.2.1.2⟩
        have hy : -127 ≤ (el l k).my ∧ (el l k).my ≤ 127 := ⟨hfm.2.2.1, hcw.2.2.1.2⟩
        have hvw := hcw.2.2.2.1
        have hfr := hcw.2.2.2.2
        have HCB : Hid (cmdBits (el l k) = bitsOf ((el l k).mx + 127) 8 ++ (bitsOf ((el l k).my + 127) 8 ++ (if (el l k).fire = true then bitsOf 1 1 ++ (bitsOf (el l k).view 32 ++ bitsOf (el l k).frac 8) else bitsOf 0 1))) := rfl
        clear c0 c1 c2 c3 c4 c5 hcw hfm
        generalize cmdBits (el l k) = CB at *
        have HA := Lib.hid (hH.alloc [.int .u32 (el l k).num, .int .i8 (el l k).mx, .int .i8 (el l k).my, .bool (el l k).fire, .int .u32 (el l k).view, .int .u8 (el l k).frac] 28)
        clear hH
        generalize (el l k).num = num at *
        generalize (el l k).mx = mx at *
        generalize (el l k).my = my at *
        generalize (el l k).fire = fire at *
        generalize (el l k).view = view at *
        generalize (el l k).frac = frac at *
        obtain ⟨x0, x1⟩ := hx
        obtain ⟨y0, y1⟩ := hy
        obtain ⟨v0, v1'⟩ := hvw
        obtain ⟨f0, f1⟩ := hfr
        have tx1 : IntKind.i64.wrap mx = mx := i64a _ (by omega) (by omega)
        have tx2 : IntKind.i64.wrap (mx + 127) = mx + 127 := i64a _ (by omega) (by omega)
        have tx3 : IntKind.u64.wrap (mx + 127) = mx + 127 := u64a _ (by omega) (by omega)
        have ty1 : IntKind.i64.wrap my = my := i64a _ (by omega) (by omega)
        have ty2 : IntKind.i64.wrap (my + 127) = my + 127 := i64a _ (by omega) (by omega)
        have ty3 : IntKind.u64.wrap (my + 127) = my + 127 := u64a _ (by omega) (by omega)
        have tv : IntKind.u64.wrap view = view := u64a _ (by omega) (by omega)
        have tf : IntKind.u64.wrap frac = frac := u64a _ (by omega) (by omega)
        go_wp2_with fail
        refine (put W W.heap.size _ _ e (LL) _ (mx + 127) 8 ⟨_, HA.out.up2.up2⟩ (by omega) (by omega) (by decide) (by decide) (by omega)).mono ?_
        rintro e' w4 ⟨rfl, h4v, h4⟩
        have g2 := h4.up2.cell 2 (v := .int .i8 my) rfl
        have H4 := Lib.hid h4
        clear e0 e1 e2 e3 e4 e5 HA h4
        go_wp2_with fail
        refine (put W W.heap.size _ _ e (LL ++ bitsOf (mx + 127) (Int.toNat 8)) _ (my + 127) 8 ⟨_, H4.out⟩ (by omega) (by omega) (by decide) (by decide) (by simp only [List.length_append, bitsOf_length]; omega)).mono ?_
        rintro e' w5 ⟨rfl, h5v, h5⟩
        have g3 := h5.up2.cell 3 (v := .bool fire) rfl
        have H5 := Lib.hid h5
        clear H4 h5 g2
        cases fire with
        | false =>
          go_wp2_with fail
          refine (put W W.heap.size _ _ e (LL ++ bitsOf (mx + 127) (Int.toNat 8) ++ bitsOf (my + 127) (Int.toNat 8)) _ 0 1 ⟨_, H5.out⟩ (by decide) (by decide) (by decide) (by decide) (by simp only [List.length_append, bitsOf_length]; omega)).mono ?_
          rintro e' w6 ⟨rfl, h6v, h6⟩
          go_wp2_with fail
          refine ⟨⟨k + 1, by omega, by go_num, ?_⟩, by simp [intOf]; omega⟩
          rw [HN.out, ← List.append_assoc, HLL.out, HCB.out]
          refine ⟨h6v, ?_⟩
          have := h6.up2.tail
          simpa [List.append_assoc] using this
        | true =>
          go_wp2_with fail
          refine (put W W.heap.size _ _ e (LL ++ bitsOf (mx + 127) (Int.toNat 8) ++ bitsOf (my + 127) (Int.toNat 8)) _ 1 1 ⟨_, H5.out⟩ (by decide) (by decide) (by decide) (by decide) (by simp only [List.length_append, bitsOf_length]; omega)).mono ?_
          rintro e' w6 ⟨rfl, h6v, h6⟩
          have g4 := h6.up2.cell 4 (v := .int .u32 view) rfl
          have H6 := Lib.hid h6
          clear H5 h6 g3
          go_wp2_with fail
          refine (put W W.heap.size _ _ e (LL ++ bitsOf (mx + 127) (Int.toNat 8) ++ bitsOf (my + 127) (Int.toNat 8) ++ bitsOf 1 (Int.toNat 1)) _ (view) 32 ⟨_, H6.out⟩ (by omega) (by omega) (by decide) (by decide) (by simp only [List.length_append, bitsOf_length]; omega)).mono ?_
          rintro e' w7 ⟨rfl, h7v, h7⟩
          have g5 := h7.up2.cell 5 (v := .int .u8 frac) rfl
          have H7 := Lib.hid h7
          clear H6 h7 g4
          go_wp2_with fail
          refine (put W W.heap.size _ _ e (LL ++ bitsOf (mx + 127) (Int.toNat 8) ++ bitsOf (my + 127) (Int.toNat 8) ++ bitsOf 1 (Int.toNat 1) ++ bitsOf view (Int.toNat 32)) _ (frac) 8 ⟨_, H7.out⟩ (by omega) (by omega) (by decide) (by decide) (by simp only [List.length_append, bitsOf_length]; omega)).mono ?_
          rintro e' w8 ⟨rfl, h8v, h8⟩
          go_wp2_with fail
          refine ⟨⟨k + 1, by omega, by go_num, ?_⟩, by simp [intOf]; omega⟩
          rw [HN.out, ← List.append_assoc, HLL.out, HCB.out]
          refine ⟨h8v, ?_⟩
          have := h8.up2.tail
          simpa [List.append_assoc] using this
      · obtain rfl : k = l.length := by omega
        rw [List.take_of_length_le (Nat.le_refl _)] at hH
        go_wp2_with fail
        go_ret
        refine ⟨rfl, v1, ?_⟩
        rw [show L ++ rowBits l = L ++ headBits l ++ l.flatMap cmdBits by rw [rowBits, List.append_assoc]]
        exact hH

end Go.Proofs.Ytioogmicdonbpaa.Cmds
