/- The law CommandRows: of a row each part side by side is one; turned about, or with one left out in the midst, it is none. For all lists and numbers; no condition. Here: the walk. -/
import Derived.Test.YtioogmicdonbpaaRow
import Derived.Test.YtioogmicdonbpaaCmdRowsP
import Derived.Test.YtioogmicdonbpaaAwake09
import Derived.Test.YtioogmicdonbpaaCmdOpen
import Derived.Deep.Cut
set_option linter.unusedVariables false
set_option linter.unusedSimpArgs false
namespace Go.Proofs.Ytioogmicdonbpaa.Cmds
open Go.Sort Go.RowKit Go.Proofs.Ytioogmicdonbpaa.Mem Go.Proofs.Ytioogmicdonbpaa.Open Go.Proofs.Ytioogmicdonbpaa.Num Go.Proofs.Ytioogmicdonbpaa.Bits

theorem info_cmd : (Try.prog.info? 28).map (fun i => (i.zero, i.size, i.bytes)) = some (some (.agg #[.int .u32 0, .int .i8 0, .int .i8 0, .bool false, .int .u32 0, .int .u8 0]), 6, 16) := by kernel_rfl

theorem pick_at (a : Int) (n : Nat) (h0 : 0 ≤ a) (h1 : a ≤ 255) (h3 : 3 ≤ n) (h8 : n ≤ 8) : ∃ k : Nat, 1 ≤ k ∧ k + 1 < n ∧ wrap64 (1 + a % ((n : Int) - 2)) = (k : Int) ∧ IntKind.i64.wrap (1 + a % ((n : Int) - 2)) = (k : Int) := by
  have hm0 := Int.emod_nonneg a (b := (n : Int) - 2) (by omega)
  have hm1 := Int.emod_lt_of_pos a (b := (n : Int) - 2) (by omega)
  generalize a % ((n : Int) - 2) = r at *
  refine ⟨(1 + r).toNat, by omega, by omega, ?_, ?_⟩
  · unfold wrap64; omega
  · rw [wrap_i64]; unfold wrap64; omega
theorem succ_k (k : Nat) (h : k ≤ 8) : IntKind.i64.wrap ((k : Int) + 1) = ((k + 1 : Nat) : Int) ∧ wrap64 ((k : Int) + 1) = ((k + 1 : Nat) : Int) := by
  rw [wrap_i64]; unfold wrap64; omega

set_option maxHeartbeats 200000 in
theorem commandRows_core (w : World) (v : Value) (l : List Cmd) (hv : RdL w v 6 (l.map Cmd.cells)) (hwf : ∀ c, c ∈ l → c.wf) (a : Int) (ha0 : 0 ≤ a) (ha1 : a ≤ 255) :
    Calls Try.prog 3 #[v, .int .u8 a] w fun e' w' => e' = .returned (.bool true) ∧ Below w.heap.size w w' := by
  obtain ⟨i0, hi, hz0, hz1, hz2⟩ := info_parts info_cmd
  obtain ⟨A, c, rfl, hc, hm, hr⟩ := cells_at hv
  have HR := Lib.hid hr
  have HWF := Lib.hid hwf
  have HV := Lib.hid hv
  clear hr hwf hv
  have hrow : ∀ w' rb, rowB l = rb → Below w.heap.size w w' → Calls Try.prog 13 #[.slice A l.length c] w' fun e w'' => e = .returned (.bool rb) ∧ Below w'.heap.size w' w'' := fun w' rb hrb hb => by
    have := row w' _ l (RdL.below HV.out hb) HWF.out
    rw [hrb] at this
    exact this
  have HROW := Lib.hid hrow
  clear hrow
  cases hrb : rowB l with
  | false =>
    have HRB := Lib.hid hrb
    clear hrb
    go_enter Try.func3, Try.ntmps3
    go_wp2_with fail
    refine (awake09 _).mono ?_
    rintro e' w1 ⟨rfl, h1⟩
    go_wp2_with fail
    refine (HROW.out _ _ HRB.out h1).mono ?_
    rintro e' w2 ⟨rfl, h2⟩
    have h3 := h1.trans (h2.mono h1.size)
    clear h1 h2
    go_wp2_with fail
    refine (awake09 _).mono ?_
    rintro e' w3 ⟨rfl, h4⟩
    go_wp2_with fail
    go_ret
    exact ⟨rfl, h3.trans (h4.mono h3.size)⟩
  | true =>
    have HRB := Lib.hid hrb
    clear hrb
    by_cases hsh : l.length < 3
    · have hb : (l.length : Int) < 3 := by omega
      go_enter Try.func3, Try.ntmps3
      go_wp2_with fail
      refine (awake09 _).mono ?_
      rintro e' w1 ⟨rfl, h1⟩
      go_wp2_with fail
      refine (HROW.out _ _ HRB.out h1).mono ?_
      rintro e' w2 ⟨rfl, h2⟩
      have h3 := h1.trans (h2.mono h1.size)
      clear h1 h2
      go_wp2_with fail
      refine (awake09 _).mono ?_
      rintro e' w3 ⟨rfl, h4⟩
      go_wp2_with fail
      go_ret
      exact ⟨rfl, h3.trans (h4.mono h3.size)⟩
    · have hb : ¬ (l.length : Int) < 3 := by omega
      have hir := (rowB_true l).1 HRB.out
      have hl8 := hir.1.2
      have HIR := Lib.hid hir
      clear hir
      obtain ⟨b, off, rfl, hlt, _⟩ := HR.out 0 (by omega)
      have tw1 : IntKind.i64.wrap a = a := i64a _ (by omega) (by omega)
      have tw2 : IntKind.i64.wrap ((l.length : Int) - 2) = (l.length : Int) - 2 := i64a _ (by omega) (by omega)
      have tz : ((l.length : Int) - 2 == 0) = false := beq_eq_false_iff_ne.2 (by omega)
      go_enter Try.func3, Try.ntmps3
      go_wp2_with fail
      refine (awake09 _).mono ?_
      rintro e' w1 ⟨rfl, h1⟩
      go_wp2_with fail
      refine (HROW.out _ _ HRB.out h1).mono ?_
      rintro e' w2 ⟨rfl, h2⟩
      have h3 := h1.trans (h2.mono h1.size)
      have H3 := Lib.hid (Holds.belowed (Holds.start w) h3)
      clear h1 h2 h3
      go_upto_region 5 with (fail)
      obtain ⟨k, hk1, hk2, tk1, tk2⟩ := pick_at a l.length ha0 ha1 (by omega) hl8
      rw [tk1]
      have k0 : (0 : Int) ≤ (k : Int) := by omega
      have k1 : (k : Int) ≤ (c : Int) := by omega
      have H4 := Lib.hid (H3.out.nilrow 28 6)
      have hown := H4.out.own
      clear tw1 tw2 tz tk1 tk2 hb
      refine wp_region_lit ?_
      refine wpList_plain rfl (fun K hK => ?_)
      go_simp
      refine hK _ _ ?_
      clear hK K
      refine wpList_plain rfl (fun K hK => ?_)
      go_simp
      refine hK _ _ ?_
      clear hK K
      refine wpList_plain rfl (fun K hK => ?_)
      go_simp
      refine hK _ _ ?_
      clear hK K
      refine wpList_plain rfl (fun K hK => ?_)
      go_simp
      refine hK _ _ ?_
      clear hK K
      refine wpList_append_own_at _ rfl (.tmp 29) (.tmp 32) 22 rfl w.heap.size 28 i0 (.agg #[.int .u32 0, .int .i8 0, .int .i8 0, .bool false, .int .u32 0, .int .u8 0]) 6 16 Try.underlying22 hi hz0 hz1 hz2 rfl (by decide) (.slice none 0 0) 0 [] rfl hown ⟨b, off, none⟩ k c (cellsL (l.take k)) rfl ?c1 ?c2 ?c3 ?c4 ?c5 ?c6 ?_
      case c1 => rw [cellsL_length, List.length_take]; omega
      case c2 =>
        have h1 := RdL.part (RdL.below HV.out H3.out.below) 0 k c (by omega) (by omega) hm
        rw [List.drop_zero, Nat.zero_mul, Nat.add_zero] at h1
        have h2 : (l.take k).length = k := by rw [List.length_take]; omega
        have h3 := cells_flat (l := l.take k) (by rw [h2]; exact h1)
        exact h3
      case c3 => exact cellsL_one _
      case c4 => unfold maxLen; omega
      case c5 => omega
      case c6 => exact H3.out.size
      intro v5 w3 ho hg _ hat
      have h5 := H4.out.grew ho hg (hat.imp id (fun h => ⟨_, h, Nat.le_refl _⟩))
      clear ho hg hat hown H4
      rw [Nat.zero_add, List.nil_append] at h5
      obtain ⟨g5, c5, rfl, hc5, _, _⟩ := h5.row (by omega)
      have hb5 := h5.below
      have hs5 := h5.size
      have H5 := Lib.hid h5
      clear h5
      go_upto_region 6 with (fail)
      have k2 : ((k : Int) + 1) ≤ (l.length : Int) := by omega
      have k3 : (0 : Int) ≤ (k : Int) + 1 := by omega
      have k4 : ((k : Int) + 1).toNat = k + 1 := by omega
      have ts1 : IntKind.i64.wrap ((k : Int) + 1) = (k : Int) + 1 := i64a _ (by omega) (by omega)
      have hck : ¬ c = k + 1 := by omega
      have hown := H5.out.own
      refine wp_region_lit ?_
      refine wpList_plain rfl (fun K hK => ?_)
      go_simp
      refine hK _ _ ?_
      clear hK K
      refine wpList_plain rfl (fun K hK => ?_)
      go_simp
      refine hK _ _ ?_
      clear hK K
      refine wpList_plain rfl (fun K hK => ?_)
      go_simp
      refine hK _ _ ?_
      clear hK K
      refine wpList_plain rfl (fun K hK => ?_)
      go_simp
      refine hK _ _ ?_
      clear hK K
      refine wpList_plain rfl (fun K hK => ?_)
      go_simp
      refine hK _ _ ?_
      clear hK K
      refine wpList_append_own_at _ rfl (.tmp 34) (.tmp 38) 22 rfl w.heap.size 28 i0 (.agg #[.int .u32 0, .int .i8 0, .int .i8 0, .bool false, .int .u32 0, .int .u8 0]) 6 16 Try.underlying22 hi hz0 hz1 hz2 rfl (by decide) (.slice (some ⟨g5, 0, none⟩) k c5) k (cellsL (l.take k)) rfl hown ⟨b, off + (k + 1) * 6, none⟩ (l.length - (k + 1)) (c - (k + 1)) (cellsL (l.drop (k + 1))) rfl ?d1 ?d2 ?d3 ?d4 ?d5 ?d6 ?_
      case d1 => rw [cellsL_length, List.length_drop]
      case d2 =>
        have h1 := RdL.part (RdL.below HV.out hb5) (k + 1) (l.length - (k + 1)) (c - (k + 1)) (by omega) (by omega) (by omega)
        have h0 : (l.drop (k + 1)).length = l.length - (k + 1) := List.length_drop
        rw [List.take_of_length_le (by omega)] at h1
        have h3 := cells_flat (l := l.drop (k + 1)) (by rw [h0]; exact h1)
        exact h3
      case d3 => exact cellsL_one _
      case d4 => unfold maxLen; omega
      case d5 => omega
      case d6 => exact hs5
      intro v6 w4 ho hg _ hat
      have h6 := H5.out.grew ho hg (hat.imp id (fun h => ⟨_, h, Nat.le_refl _⟩))
      clear ho hg hat hown H5 hb5 hs5
      rw [← cellsL_append] at h6
      have hgl : (l.take k ++ l.drop (k + 1)).length = k + (l.length - (k + 1)) := by rw [List.length_append, List.length_take, List.length_drop]; omega
      rw [← hgl] at h6
      have HGL := Lib.hid hgl
      have HG := Lib.hid (row_gap l k HIR.out hk1 hk2)
      have HK := Lib.hid (And.intro hk1 hk2)
      have HGW : Hid (∀ c, c ∈ l.take k ++ l.drop (k + 1) → c.wf) := fun c hc => by
        rcases List.mem_append.1 hc with h | h
        · exact HWF.out c (List.mem_of_mem_take h)
        · exact HWF.out c (List.mem_of_mem_drop h)
      clear hgl
      generalize l.take k ++ l.drop (k + 1) = gap at *
      obtain ⟨A6, c6, rfl⟩ := h6.slice
      have H6 := Lib.hid h6
      clear h6
      clear k2 k3 k4 ts1 hck k0 k1 hk1 hk2
      have H7 := Lib.hid (H6.out.nilrow 28 6)
      have tl : IntKind.i64.wrap ((l.length : Int) - 1) = (l.length : Int) - 1 := i64a _ (by omega) (by omega)
      clear H6
      go_wp2_with fail
      go_loopw [7, 8] (fun t i wr => ∃ m : Nat, m ≤ l.length ∧ i = .int .i64 ((m : Int) - 1) ∧ Holds w w.heap.size wr (.rw t 28 6 (l.length - m) (cellsL (l.reverse.take (l.length - m))) :: .rw (.slice A6 gap.length c6) 28 6 gap.length (cellsL gap) :: []))
        (fun _ i _ => (intOf i + 1).toNat)
      case atStart => exact ⟨l.length, Nat.le_refl _, rfl, by rw [Nat.sub_self]; exact H7.out⟩
      case round =>
        obtain ⟨m, hm1, rfl, hH⟩ := hrel
        clear H7
        cases m with
        | zero =>
          have hi0 : ¬ (0 : Int) ≤ ((0 : Nat) : Int) - 1 := by omega
          go_upto_region 11 with (fail)
          clear hi0
          rw [Nat.sub_zero, List.take_of_length_le (by simp)] at hH
          obtain ⟨A7, c7, rfl⟩ := hH.slice
          have hk := HK.out
          have k0 : (0 : Int) ≤ (k : Int) := by omega
          have k1 : (k : Int) ≤ (c : Int) := by omega
          have k2 : (k : Int) ≤ (l.length : Int) := by omega
          have hck : ¬ c = k := by omega
          have r1 : ∀ wx, Below w.heap.size w wx → Calls Try.prog 13 #[.slice (some ⟨b, off, none⟩) k c] wx fun e w'' => e = .returned (.bool true) ∧ Below wx.heap.size wx w'' := fun wx hb => by
            have h1 := RdL.part (RdL.below HV.out hb) 0 k c (by omega) (by omega) hm
            rw [List.drop_zero, Nat.zero_mul, Nat.add_zero] at h1
            have := row wx _ _ h1 (fun c hc => HWF.out c (List.mem_of_mem_take hc))
            rwa [row_take l k HIR.out hk.1 (by omega)] at this
          have r2 : ∀ wx, Below w.heap.size w wx → Calls Try.prog 13 #[.slice (some ⟨b, off + k * 6, none⟩) (l.length - k) (c - k)] wx fun e w'' => e = .returned (.bool true) ∧ Below wx.heap.size wx w'' := fun wx hb => by
            have h1 := RdL.part (RdL.below HV.out hb) k (l.length - k) (c - k) (by omega) (by omega) (by omega)
            rw [List.take_of_length_le (by rw [List.length_drop]; omega)] at h1
            have := row wx _ _ h1 (fun c hc => HWF.out c (List.mem_of_mem_drop hc))
            rwa [row_drop l k HIR.out (by omega)] at this
          have R1 := Lib.hid r1
          have R2 := Lib.hid r2
          have HH := Lib.hid hH
          clear r1 r2 hH hk
          go_wp2_with fail
          refine (R1.out _ HH.out.below).mono ?_
          rintro e' x1 ⟨rfl, hx⟩
          have HH1 := Lib.hid (Holds.belowed HH.out hx)
          clear hx
          go_wp2_with fail
          refine (R2.out _ HH1.out.below).mono ?_
          rintro e' x2 ⟨rfl, hx⟩
          have HH2 := Lib.hid (Holds.belowed HH1.out hx)
          clear hx
          have r3 := row x2 _ gap (Holds.rdL HH2.out.up1) HGW.out
          rw [HG.out] at r3
          have R3 := Lib.hid r3
          clear r3
          go_wp2_with fail
          refine R3.out.mono ?_
          rintro e' x3 ⟨rfl, hx⟩
          have h3 := Holds.belowed HH2.out hx
          have HH3 := Lib.hid h3
          have h3' : Holds w w.heap.size x3 (.rw (.slice A7 l.length c7) 28 6 l.reverse.length (cellsL l.reverse) :: .rw (.slice A6 gap.length c6) 28 6 gap.length (cellsL gap) :: []) := by rw [List.length_reverse]; exact h3
          have r4 := row x3 _ l.reverse (Holds.rdL h3') (fun c hc => HWF.out c (List.mem_reverse.1 hc))
          rw [row_rev l HIR.out (by omega)] at r4
          have R4 := Lib.hid r4
          clear r4 hx h3 h3'
          go_wp2_with fail
          refine R4.out.mono ?_
          rintro e' x4 ⟨rfl, hx⟩
          have HH4 := Lib.hid (Holds.belowed HH3.out hx)
          have r5 := row x4 (.slice none 0 0) [] (.inl ⟨rfl, rfl⟩) (fun c hc => by simp at hc)
          rw [row_nil] at r5
          have R5 := Lib.hid r5
          clear r5 hx
          go_wp2_with fail
          refine R5.out.mono ?_
          rintro e' x5 ⟨rfl, hx⟩
          have hb5 := (Holds.belowed HH4.out hx).below
          clear hx
          go_wp2_with fail
          go_ret
          exact ⟨rfl, hb5⟩
        | succ n =>
          rw [show (((n + 1 : Nat) : Int) - 1) = (n : Int) by omega]
          obtain ⟨A7, c7, rfl⟩ := hH.slice
          obtain ⟨b', off', hA, _, c0, c1, c2, c3, c4, c5⟩ := HR.out n (by omega)
          obtain ⟨rfl, rfl⟩ : b = b' ∧ off = off' := by injection hA with hA; injection hA with h1 h2 h3; exact ⟨h1, h2⟩
          clear hA
          have e0 := (hH.below.cell (p := ⟨b, off + n * 6, none⟩) hlt).trans c0
          have e1 := (hH.below.cell (p := ⟨b, off + n * 6 + 1, none⟩) hlt).trans c1
          have e2 := (hH.below.cell (p := ⟨b, off + n * 6 + 2, none⟩) hlt).trans c2
          have e3 := (hH.below.cell (p := ⟨b, off + n * 6 + 3, none⟩) hlt).trans c3
          have e4 := (hH.below.cell (p := ⟨b, off + n * 6 + 4, none⟩) hlt).trans c4
          have e5 := (hH.below.cell (p := ⟨b, off + n * 6 + 5, none⟩) hlt).trans c5
          have n0 : (0 : Int) ≤ (n : Int) := by omega
          have n1 : (n : Int) < (l.length : Int) := by omega
          have tn : IntKind.i64.wrap ((n : Int) - 1) = (n : Int) - 1 := i64a _ (by omega) (by omega)
          have hown := hH.own
          have hsz := hH.size
          have HH := Lib.hid hH
          clear c0 c1 c2 c3 c4 c5 hH
          go_upto_region 10 with (fail)
          refine wp_region_lit ?_
          refine wpList_plain rfl (fun K hK => ?_)
          go_simp
          refine hK _ _ ?_
          clear hK K
          refine wpList_plain rfl (fun K hK => ?_)
          go_simp
          refine hK _ _ ?_
          clear hK K
          refine wpList_plain rfl (fun K hK => ?_)
          go_simp
          refine hK _ _ ?_
          clear hK K
          refine wpList_plain rfl (fun K hK => ?_)
          go_simp
          refine hK _ _ ?_
          clear hK K
          refine wpList_plain rfl (fun K hK => ?_)
          go_simp
          refine hK _ _ ?_
          clear hK K
          refine wpList_plain rfl (fun K hK => ?_)
          go_simp
          refine hK _ _ ?_
          clear hK K
          refine wpList_append_own_at _ rfl (.tmp 47) (.tmp 52) 22 rfl w.heap.size 28 i0 (.agg #[.int .u32 0, .int .i8 0, .int .i8 0, .bool false, .int .u32 0, .int .u8 0]) 6 16 Try.underlying22 hi hz0 hz1 hz2 rfl (by decide) _ _ _ rfl (hown.alloc _) ⟨wr.heap.size, 0, none⟩ 1 1 (el l n).cells rfl rfl ?f2 ?f3 ?f4 ?f5 ?f6 ?_
          case f2 => intro j u hu; rw [add_none, Nat.zero_add]; exact cell_one_new' _ _ _ j u (by simpa [Cmd.cells] using hu)
          case f3 => intro u hu; exact cellsL_one [el l n] u (by simpa [cellsL] using hu)
          case f4 => unfold maxLen; omega
          case f5 => omega
          case f6 => simp; omega
          intro v8 w8 ho hg _ hat
          have h8 := (HH.out.alloc' _).grew ho hg (hat.imp id (fun h => ⟨_, h, Nat.le_refl _⟩))
          clear ho hg hat hown e0 e1 e2 e3 e4 e5
          have H8 := Lib.hid h8
          clear h8 HH
          go_wp2_with fail
          refine ⟨⟨n, by omega, rfl, ?_⟩, by simp [intOf]⟩
          have h9 := H8.out
          have eN : l.length - n = l.length - (n + 1) + 1 := by omega
          have eT : cellsL (l.reverse.take (l.length - n)) = cellsL (l.reverse.take (l.length - (n + 1))) ++ (el l n).cells := by
            rw [eN, List.take_add_one, el_get l.reverse _ (by rw [List.length_reverse]; omega), el_rev _ _ (by omega), cellsL_append, show l.length - 1 - (l.length - (n + 1)) = n by omega]
            simp [cellsL]
          rw [eT, eN]
          exact h9

theorem commandRows (w : World) {H : Type} {enc : TypeId × Value → H} {base base' : Nat} {sp : Nat → Bool} {held : Bool} {d : DataW H} {ps : List MemPlace} {r : Reach} (v : Value)
    (hok : Value.okWide Try.prog w r base' 22 v) (h : DataW.Trod enc Try.prog w base sp held 22 v d ps) (a : Int) (wa : (Lit.int .u8 a).wf = true) :
    Calls Try.prog 3 #[v, .int .u8 a] w fun e' w' => e' = .returned (.bool true) ∧ Below w.heap.size w w' := by
  obtain ⟨l, hv, hwf⟩ := open_cmds hok h
  simp [Lit.wf, IntKind.min, IntKind.max, IntKind.signed, IntKind.bits] at wa
  exact commandRows_core w v l hv hwf a (by omega) (by omega)

end Go.Proofs.Ytioogmicdonbpaa.Cmds
