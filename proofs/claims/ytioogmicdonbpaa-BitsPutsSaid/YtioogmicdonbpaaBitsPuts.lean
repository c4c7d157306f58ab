/- The law BitsPuts: whatever is put, up to 200 times, the bytes are the chapter's. For all lists; no condition. Here: the walk. -/
import Derived.Test.YtioogmicdonbpaaRef6b
import Derived.Test.YtioogmicdonbpaaSmall
import Derived.Test.YtioogmicdonbpaaAwake06
import Derived.Test.YtioogmicdonbpaaSame
import Derived.Test.YtioogmicdonbpaaOps06
set_option linter.unusedVariables false
set_option linter.unusedSimpArgs false
namespace Go.Proofs.Ytioogmicdonbpaa.Wr
open Go.RowKit Go.Proofs.Ytioogmicdonbpaa.Mem Go.Proofs.Ytioogmicdonbpaa.Bits Go.Proofs.Ytioogmicdonbpaa.Num Go.Proofs.Ytioogmicdonbpaa.Open Go.Proofs.YtioogmicdonbpaaW.PrintWords

set_option maxHeartbeats 2000000 in
set_option maxRecDepth 100000 in
theorem bitsPuts_core (w : World) (v : Value) (ops : List (Bool × Int × Int)) (hv : RdL w v 3 (ops.map opCells)) (hwf : ∀ o, o ∈ ops → opWf o) :
    Calls Try.prog 7 #[v] w fun e' w' => e' = .returned (.bool true) ∧ Below w.heap.size w w' := by
  obtain ⟨A, c, rfl, hc, hm, hr⟩ := hv.form (by decide)
  have hm2 : c ≤ 9223372036854775807 := by unfold maxLen at hm; omega
  clear hm
  simp only [List.length_map] at *
  have HR := Lib.hid hr
  have HWF := Lib.hid hwf
  clear hr hv hwf
  by_cases hbig : 200 < ops.length
  · have hb : (200 : Int) < (ops.length : Int) := by omega
    go_enter Try.func7, Try.ntmps7
    go_wp2_with fail
    refine (awake06 _ _ _ _ (Holds.start w)).mono ?_
    rintro e' w1 ⟨rfl, h1⟩
    go_wp2_with fail
    refine (awake06 _ _ _ _ h1).mono ?_
    rintro e' w2 ⟨rfl, h2⟩
    go_wp2_with fail
    go_ret
    exact ⟨rfl, h2.below⟩
  · have hb : ¬ (200 : Int) < (ops.length : Int) := by omega
    go_enter Try.func7, Try.ntmps7
    go_wp2_with fail
    refine (awake06 _ _ _ _ (Holds.start w)).mono ?_
    rintro e' w1 ⟨rfl, h1⟩
    obtain ⟨v1, h2⟩ := fresh h1 33
    obtain ⟨v2, h3⟩ := rfresh h2 39
    have hs : (w1.alloc (.cells #[.slice none 0 0, .int .i64 0] 33)).heap.size = w1.heap.size + 1 := by simp
    rw [hs] at h3
    have H3 := Lib.hid h3
    have hb1 := h1.size
    clear h1 h2 h3 hs
    go_wp2_with fail
    have HK : ∀ k, k < ops.length → ∃ b off s x n, A = some ⟨b, off, none⟩ ∧ b < w.heap.size ∧ ops[k]? = some (s, x, n) ∧ opWf (s, x, n) ∧ w.cell? ⟨b, off + k * 3, none⟩ = some (.bool s) ∧ w.cell? ⟨b, off + k * 3 + 1, none⟩ = some (.int .u64 x) ∧ w.cell? ⟨b, off + k * 3 + 2, none⟩ = some (.int .i64 n) := by
      intro k hk
      obtain ⟨b, off, e1, hlt, h4⟩ := HR.out k hk
      obtain ⟨⟨s, x, n⟩, ho⟩ : ∃ o, ops[k]? = some o := ⟨_, List.getElem?_eq_getElem hk⟩
      have h5 := h4 (opCells (s, x, n)) (by simp [ho])
      exact ⟨b, off, s, x, n, e1, hlt, ho, HWF.out _ (List.mem_of_getElem? ho), h5 0 _ rfl, h5 1 _ rfl, h5 2 _ rfl⟩
    have HK2 := Lib.hid HK
    clear HK
    generalize w1.heap.size = b1 at *
    go_loopw [5] (fun i wr => ∃ k : Nat, k ≤ ops.length ∧ i = .int .i64 k ∧ ∃ v1 v2, Holds w w.heap.size wr (.st b1 [v1, .int .i64 (((ops.take k).flatMap opBits).length : Int)] 33 :: .rw v1 5 1 (nby ((ops.take k).flatMap opBits)) (nums .u8 (pack ((ops.take k).flatMap opBits))) ::
        .st (b1 + 1) [v2] 39 :: .rw v2 4 1 ((ops.take k).flatMap opBits).length (bools ((ops.take k).flatMap opBits)) :: []))
      (fun i _ => ops.length - (intOf i).toNat)
    case atStart => exact ⟨0, Nat.zero_le _, rfl, v1, v2, H3.out.up2.up3.up1⟩
    case round =>
      obtain ⟨k, hk, rfl, v1, v2, hH⟩ := hrel
      have hlen := opsBits_len (ops.take k)
      have hlen2 : ((ops.take k).flatMap opBits).length ≤ 16000 := by rw [List.length_take] at hlen; omega
      clear hlen
      by_cases hkn : k < ops.length
      · obtain ⟨b, off, s, x, n, rfl, hlt, hok, hwf, d0, d1, d2⟩ := HK2.out k hkn
        have HN := Lib.hid (take_flat ops k _ hok)
        generalize hL : (ops.take k).flatMap opBits = L at *
        have hbel := hH.below
        have e0 := (hbel.cell (p := ⟨b, off + k * 3, none⟩) hlt).trans d0
        have e1 := (hbel.cell (p := ⟨b, off + k * 3 + 1, none⟩) hlt).trans d1
        have e2 := (hbel.cell (p := ⟨b, off + k * 3 + 2, none⟩) hlt).trans d2
        have k0 : (0 : Int) ≤ (k : Int) := by omega
        have k1 : (k : Int) < (ops.length : Int) := by omega
        have hob : opBits (s, x, n) = if s = true then smallB (zig (wrap64 x)).toNat else if 0 ≤ n ∧ n ≤ 64 then bitsOf x n.toNat else [] := rfl
        have hol := opBits_len (s, x, n)
        generalize hO : opBits (s, x, n) = O at *
        have HOB := Lib.hid hob
        clear hob hO
        have hwx := wrap64_range x
        by_cases hsm : s = true
        case' pos =>
          subst hsm
          have hOe := Lib.hid (HOB.out.trans (if_pos rfl))
          go_wp2_with fail
          refine (small w w.heap.size _ _ 33 L _ (wrap64 x) ⟨v1, hH⟩ hwx.1 hwx.2 (by omega)).mono ?_
          rintro e' w2 ⟨rfl, v1', h2⟩
          rw [← hOe.out] at h2
          have hbel2 := h2.below
          have e1' := (hbel2.cell (p := ⟨b, off + k * 3 + 1, none⟩) hlt).trans d1
          have h3 := h2.up2.up3.up1
          have H3 := Lib.hid h3
          clear e0 e1 e2 hbel hH h2 h3
          go_wp2_with fail
          refine (rsmall w w.heap.size _ _ 39 L _ (wrap64 x) ⟨v2, H3.out⟩ hwx.1 hwx.2 (by omega)).mono ?_
          rintro e' w3 ⟨rfl, v2', h4⟩
          rw [← hOe.out] at h4
          have H5 := Lib.hid h4.up2.up3.up1
          clear e1' hbel2 H3 h4
          go_wp2_with fail
          skip
        case' neg =>
          obtain rfl : s = false := by simpa using hsm
          have hOe := Lib.hid (HOB.out.trans (if_neg (by decide)))
          go_wp2_with fail
          go_still_tail 11, (by kernel_rfl)
          go_wp2_with fail
          have hputs : Calls Try.prog 23 #[.pointer (some ⟨b1, 0, none⟩), .int .u64 x, .int .i64 n] wr.drew fun e' w' => e' = .returned (.tuple #[]) ∧ HasW w w.heap.size w' b1 33 (L ++ O) (.st (b1 + 1) [v2] 39 :: .rw v2 4 1 L.length (bools L) :: []) := by
            rw [hOe.out]
            by_cases hn : 0 ≤ n ∧ n ≤ 64
            · rw [if_pos hn]
              exact put w w.heap.size _ _ 33 L _ x n ⟨v1, hH.drew⟩ hwf.1.1 hwf.1.2 hn.1 hn.2 (by omega)
            · rw [if_neg hn, List.append_nil]
              exact put_not w w.heap.size _ _ 33 L _ x n ⟨v1, hH.drew⟩ (by omega)
          refine hputs.mono ?_
          rintro e' w2 ⟨rfl, v1', h2⟩
          have hbel2 := h2.below
          have e1' := (hbel2.cell (p := ⟨b, off + k * 3 + 1, none⟩) hlt).trans d1
          have e2' := (hbel2.cell (p := ⟨b, off + k * 3 + 2, none⟩) hlt).trans d2
          have h3 := h2.up2.up3.up1
          have H3 := Lib.hid h3
          clear e0 e1 e2 hbel hH h2 h3 hputs
          go_wp2_with fail
          go_still_tail 11, (by kernel_rfl)
          go_wp2_with fail
          have hputs : Calls Try.prog 32 #[.pointer (some ⟨b1 + 1, 0, none⟩), .int .u64 x, .int .i64 n] w2.drew fun e' w' => e' = .returned (.tuple #[]) ∧ HasB w w.heap.size w' (b1 + 1) 39 (L ++ O) (.st b1 [v1', .int .i64 ((L ++ O).length : Int)] 33 :: .rw v1' 5 1 (nby (L ++ O)) (nums .u8 (pack (L ++ O))) :: []) := by
            rw [hOe.out]
            by_cases hn : 0 ≤ n ∧ n ≤ 64
            · have h6 := H3.out
              rw [hOe.out] at h6
              rw [if_pos hn] at h6 ⊢
              exact rput w w.heap.size _ _ 39 L _ x n ⟨v2, h6.drew⟩ hwf.1.1 hwf.1.2 hn.1 hn.2 (by omega)
            · have h6 := H3.out
              rw [hOe.out] at h6
              rw [if_neg hn, List.append_nil] at h6 ⊢
              exact rput_not w w.heap.size _ _ 39 L _ x n ⟨v2, h6.drew⟩ (by omega)
          refine hputs.mono ?_
          rintro e' w3 ⟨rfl, v2', h4⟩
          have H5 := Lib.hid h4.up2.up3.up1
          clear e1' e2' hbel2 H3 h4 hputs
          go_wp2_with fail
          skip
        all_goals
          have hcnt : ∀ m, Calls Try.prog 15 #[.pointer (some ⟨b1, 0, none⟩)] (w3.drewN m) fun e w' => e = .returned (.int .i64 ((L ++ O).length : Int)) ∧ ∃ n, w' = w3.drewN n := fun m =>
            (count w w.heap.size _ _ 33 (L ++ O) _ ⟨v1', H5.out.drewN m⟩).mono fun _ _ h => ⟨h.1, m, h.2.symm⟩
          obtain ⟨A2, c2, rfl⟩ := H5.out.up3.slice
          have cb := H5.out.up2.cell 0 (v := .slice A2 (L ++ O).length c2) rfl
          generalize hLO : L ++ O = LO at *
          have hlo : LO.length ≤ 16080 := by rw [← hLO, List.length_append]; omega
          have HLO := Lib.hid hLO
          have HC := Lib.hid hcnt
          clear hcnt hLO
          go_quiet ((go_at_call 15; exact HC.out _))
          go_wp2_with fail
          refine ⟨⟨k + 1, by omega, by go_num, v1', .slice A2 LO.length c2, ?_⟩, by simp [intOf]; omega⟩
          rw [HN.out]
          exact H5.out.drewN _
      · obtain rfl : k = ops.length := by omega
        rw [List.take_of_length_le (Nat.le_refl _)] at hH hlen2
        generalize ops.flatMap opBits = L at *
        go_wp2_with fail
        refine (bytes w w.heap.size _ _ 33 L _ ⟨v1, hH⟩ (by omega)).mono ?_
        rintro e' w2 ⟨v3, rfl, v4, h2⟩
        have h3 := h2.up3.up4.up1
        have H4 := Lib.hid h3
        clear hH h2 h3
        go_wp2_with fail
        refine (rbytes w w.heap.size _ _ 39 L _ ⟨v2, H4.out⟩ (by omega)).mono ?_
        rintro e' w3 ⟨v5, rfl, v6, h2⟩
        have r3 := h2.up5.rd
        have r5 := h2.up2.rd
        have hp := pack_length L
        rw [← hp] at r3 r5
        have hbel := h2.below
        have HR3 := Lib.hid r3
        have HR5 := Lib.hid r5
        clear H4 h2 r3 r5 hp
        go_wp2_with fail
        refine (same _ _ _ (pack L) (pack L) HR3.out HR5.out).mono ?_
        rintro e' w4 ⟨rfl, hd⟩
        go_wp2_with fail
        go_ret
        exact ⟨ret_b (by simp), below_then hbel hbel.size hd.below⟩

theorem bitsPuts (w : World) {H : Type} {enc : TypeId × Value → H} {base base' : Nat} {sp : Nat → Bool} {held : Bool} {d : DataW H} {ps : List MemPlace} {r : Reach} (v : Value)
    (hok : Value.okWide Try.prog w r base' 53 v) (h : DataW.Trod enc Try.prog w base sp held 53 v d ps) :
    Calls Try.prog 7 #[v] w fun e' w' => e' = .returned (.bool true) ∧ Below w.heap.size w w' := by
  obtain ⟨ops, hv, hwf⟩ := open_ops hok h
  exact bitsPuts_core w v ops hv hwf

end Go.Proofs.Ytioogmicdonbpaa.Wr
