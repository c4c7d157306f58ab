/- The law SerialOnce: of any row of numbers each is new at most once; what is taken is had just behind; the latest never goes back. For all numbers and rows; no condition. Here: the walk. -/
import Derived.Test.YtlhlkjllihbokaaSerialRow
import Derived.Deep.Cut
set_option linter.unusedVariables false
set_option linter.unusedSimpArgs false
namespace Go.Proofs.Ytlhlkjllihbokaa.Ser
open Go.Sort Go.RowKit Go.Deep Go.WideShapes Go.ChangeShapes Go.Proofs.Ytlhlkjllihbokaa.Mem Go.Proofs.Ytlhlkjllihbokaa.Open Go.Proofs.Ytlhlkjllihbokaa.Num Go.Proofs.Ytlhlkjllihbokaa.Step

theorem set_same (T : List Bool) (q : Nat) : (fun j => (T.set q (T.getD q false)).getD j false) = fun j => T.getD j false := by
  funext j
  simp only [List.getD_eq_getElem?_getD, List.getElem?_set]
  by_cases hj : q = j
  · subst hj
    by_cases h : q < T.length
    · simp [h]
    · simp [h]
  · rw [if_neg hj]

theorem info_seen : (Try.prog.info? 31).map (fun i => i.zero) = some (some (.agg (boolsV (List.replicate 1000 false)).toArray)) := by kernel_rfl
theorem zero_seen (w : World) : Sem.run Try.prog (zeroValue 31) w = .ok (.agg (boolsV (List.replicate 1000 false)).toArray) w := by
  have h := info_seen
  cases hi : Try.prog.info? 31 with
  | none => rw [hi] at h; cases h
  | some i =>
    rw [hi] at h
    simp only [Option.map_some, Option.some.injEq] at h
    generalize (boolsV (List.replicate 1000 false)).toArray = zs at *
    simp [zeroValue, typeInfo, hi, h]

set_option maxHeartbeats 1000000 in
theorem serialOnce_core (w : World) (f : Int) (v : Value) (l : List Int) (hv : RdL w v 1 (l.map fun n => [.int .u16 n])) (hwf : ∀ o, o ∈ l → 0 ≤ o ∧ o ≤ 65535) (hf0 : 0 ≤ f) (hf1 : f ≤ 65535) :
    Calls Try.prog 5 #[.int .u16 f, v] w fun e' w' => e' = .returned (.bool true) ∧ Below w.heap.size w w' := by
  obtain ⟨A, c, rfl, hc, hm, hr⟩ := nums_at hv
  have HR := Lib.hid hr
  have HWF := Lib.hid hwf
  clear hr hv hm hwf
  by_cases hbig : 200 < l.length
  · have hb : (200 : Int) < (l.length : Int) := by omega
    go_enter Try.func5, Try.ntmps5
    go_wp2_with fail
    refine (awakeS _).mono ?_
    rintro e' w1 ⟨rfl, rfl⟩
    go_wp2_with fail
    refine (awakeS _).mono ?_
    rintro e' w3 ⟨rfl, rfl⟩
    go_wp2_with fail
    go_ret
    exact ⟨rfl, Below.refl _ _⟩
  · have hb : ¬ (200 : Int) < (l.length : Int) := by omega
    have h0 := (Holds.start w).alloc [.bool false, .int .u16 0, .int .u32 0] 30
    have hs1 : (w.alloc (.cells #[.bool false, .int .u16 0, .int .u32 0] 30)).heap.size = w.heap.size + 1 := by simp
    have h1 := h0.alloc (boolsV (List.replicate 1000 false)) 31
    rw [hs1] at h1
    have hz := zero_seen
    have hsz : (boolsV (List.replicate 1000 false)).toArray.size = 1000 := by rw [List.size_toArray]; unfold boolsV; rw [List.length_map, List.length_replicate]
    generalize (boolsV (List.replicate 1000 false)).toArray = zs at *
    have hne : ¬ zs = #[] := by intro h; rw [h] at hsz; cases hsz
    have H1 := Lib.hid h1.up1
    clear h0 hs1 h1 hsz
    go_enter Try.func5, Try.ntmps5
    go_wp2_with fail
    refine (awakeS _).mono ?_
    rintro e' w1 ⟨rfl, rfl⟩
    go_wp2_with fail
    go_loopw [7] (fun i wr => ∃ k : Nat, k ≤ l.length ∧ i = .int .i64 k ∧ ∃ (T : List Bool) (x : Win), T.length = 1000 ∧ Hid (Inv 1000 f (fun j => T.getD j false) x) ∧
        Holds w w.heap.size wr [.st w.heap.size [.bool x.any, .int .u16 x.last, .int .u32 x.mask] 30, .st (w.heap.size + 1) (boolsV T) 31])
      (fun i _ => l.length - (intOf i).toNat)
    case atStart =>
      refine ⟨0, Nat.zero_le _, rfl, List.replicate 1000 false, ⟨false, 0, 0⟩, List.length_replicate, Lib.hid (.inl ⟨rfl, rfl, rfl, fun j => ?_⟩), ?_⟩
      · exact rep_false 1000 j
      · exact H1.out
    case round =>
      obtain ⟨k, hk, rfl, T, x, hT, HI, hH⟩ := hrel
      clear H1 hz hne
      obtain ⟨hm0, hm1⟩ := inv_mask HI.out
      by_cases hkn : k < l.length
      · obtain ⟨b, off, rfl, hlt, c0⟩ := HR.out k hkn
        have ho := HWF.out _ (el_mem l k hkn)
        obtain ⟨q, hq⟩ : ∃ q : Nat, el l k % 1000 = (q : Int) := ⟨(el l k % 1000).toNat, by omega⟩
        have hq33 : q < 1000 := by omega
        have e := (hH.below.cell (p := ⟨b, off + k, none⟩) hlt).trans c0
        clear c0
        have k0 : (0 : Int) ≤ (k : Int) := by omega
        have k1 : (k : Int) < (l.length : Int) := by omega
        have q0 : (0 : Int) ≤ (q : Int) := by omega
        have q1 : (q : Int) < 1000 := by omega
        have HTS := Lib.hid (succ_len k (show k < maxLen by unfold maxLen; omega))
        have tq1 : IntKind.i64.wrap (q : Int) = (q : Int) := i64c _ (by omega) (by omega)
        have tq2 : IntKind.u16.wrap (q : Int) = (q : Int) := u16c _ (by omega) (by omega)
        obtain ⟨n, hn⟩ : ∃ n, (f + (q : Int)) % 65536 = n := ⟨_, rfl⟩
        have tn : IntKind.u16.wrap (f + (q : Int)) = n := by rw [← hn]; exact u16w _
        obtain ⟨⟨y, ok⟩, hy⟩ : ∃ y, takeW x n = y := ⟨_, rfl⟩
        obtain ⟨hn1, hn2, hn3, hn4, hn5, _⟩ := take_inv (Nat.le_refl _) HI.out q hq33 y ok (by rw [hn]; exact hy)
        have hpt := ptake wr x.any x.last x.mask n hm0 hm1
        rw [show (⟨x.any, x.last, x.mask⟩ : Win) = x from rfl, hy] at hpt
        have hpt2 : Calls Try.prog 16 #[.agg #[.bool x.any, .int .u16 x.last, .int .u32 x.mask], .int .u16 n] wr fun e' w' => e' = .returned (.tuple #[.agg #[.bool y.any, .int .u16 y.last, .int .u32 y.mask], .bool ok]) ∧ Below wr.heap.size wr w' := hpt
        have HPT := Lib.hid hpt2
        have hmy : 0 ≤ y.mask ∧ y.mask < 4294967296 := by
          cases ok with
          | true => rw [if_pos rfl] at hn5; exact inv_mask hn5
          | false => rw [hn2 rfl]; exact ⟨hm0, hm1⟩
        have hph := fun W' => phas W' y.any y.last y.mask n hmy.1 hmy.2
        rw [show (⟨y.any, y.last, y.mask⟩ : Win) = y from rfl] at hph
        rw [hn] at hn3
        have hst := fun W' => psteps W' x.last y.last
        obtain ⟨sd, hsd⟩ : ∃ sd, steps x.last y.last = sd := ⟨_, rfl⟩
        rw [hsd] at hn4
        simp only [hsd] at hst
        have HST := Lib.hid hst
        have z0 := hH.cell 0 rfl
        have z1 := hH.cell 1 rfl
        have z2 := hH.cell 2 rfl
        have HH := Lib.hid hH
        have hTq := bools_get T q (by omega)
        obtain ⟨tb, htb⟩ : ∃ tb, T.getD q false = tb := ⟨_, rfl⟩
        rw [htb] at hTq
        have hsame : (fun j => (T.set q tb).getD j false) = fun j => T.getD j false := by
          rw [← htb]; exact set_same T q
        have hput := set_put T q (by omega)
        have HSAME := Lib.hid hsame
        have HPUT := Lib.hid hput
        simp only [htb] at hn1
        have hany : x.any = false → ok = true := fun h => by
          have : takeW x n = (⟨true, n, 0⟩, true) := by unfold takeW; rw [if_pos h]
          rw [this] at hy
          exact (Prod.mk.inj hy).2.symm
        have HN5 := Lib.hid hn5
        clear hpt hpt2 hH hy hst hsd htb hsame hput hn5 hn
        cases ok with
        | true =>
          have htf : tb = false := by
            cases tb with
            | false => rfl
            | true => exact absurd (hn1 rfl) (by decide)
          subst htf
          rw [hn3 rfl] at hph
          have HPH := Lib.hid hph
          have hinv : Inv 1000 f (fun j => (T.set q true).getD j false) y := by
            have h := HN5.out
            rw [if_pos rfl] at h
            rw [HPUT.out]
            exact h
          have HY := Lib.hid hinv
          clear hph hn1 hn2 hn3 hany hinv HN5
          obtain ⟨xany, hxa⟩ : ∃ b, x.any = b := ⟨_, rfl⟩
          rw [hxa] at hn4 HH HPT z0
          clear hxa
          cases xany with
          | true =>
            have tsd : decide (sd < 0) = false := by have := hn4 rfl; simp; omega
            clear hn4
            go_wp2_with fail
            refine HPT.out.mono ?_
            rintro e' w2 ⟨rfl, h2⟩
            have h3 := Holds.belowed HH.out h2
            have h4 := h3.alloc [.bool y.any, .int .u16 y.last, .int .u32 y.mask] 30
            have a0 := h4.cell 0 rfl
            have a1 := h4.cell 1 rfl
            have a2 := h4.cell 2 rfl
            have b0 := h4.up1.cell 0 rfl
            have b1 := h4.up1.cell 1 rfl
            have b2 := h4.up1.cell 2 rfl
            have r0 := h4.up2.cell q hTq
            have H4 := Lib.hid h4
            clear h2 h3 h4 z0 z1 z2 e
            go_wp2_with fail
            refine (HST.out _).mono ?_
            rintro e' w5 ⟨rfl, rfl⟩
            go_wp2_with fail
            refine (HPH.out _).mono ?_
            rintro e' w3 ⟨rfl, h5⟩
            have h4 := Holds.belowed H4.out h5
            clear h5 H4 a0 a1 a2 b0 b1 b2 r0
            have f0 := h4.up2.frozen q
            have rr := h4.up2.cell q hTq
            have h5 := h4.up2.set q (.bool true)
            rw [bools_set] at h5
            have y0 := h5.up1.cell 0 rfl
            have y1 := h5.up1.cell 1 rfl
            have y2 := h5.up1.cell 2 rfl
            have h6 := h5.up2.set 0 (.bool y.any)
            have h7 := h6.set 1 (.int .u16 y.last)
            have h8 := h7.set 2 (.int .u32 y.mask)
            simp only [List.set] at h8
            have g0 := h5.up2.cell 0 rfl
            have fg0 := h5.up2.frozen 0
            have g1 := h6.cell 1 rfl
            have fg1 := h6.frozen 1
            have g2 := h7.cell 2 rfl
            have fg2 := h7.frozen 2
            have H8 := Lib.hid h8
            clear h4 h5 h6 h7 h8 hTq
            go_wp2_with fail
            try rw [HTS.out]
            exact ⟨⟨k + 1, by omega, cast_succ k, T.set q true, y, by rw [List.length_set]; exact hT, HY, H8.out.up2.tail⟩, succ_less hkn⟩
          | false =>
            clear hn4
            go_wp2_with fail
            refine HPT.out.mono ?_
            rintro e' w2 ⟨rfl, h2⟩
            have h3 := Holds.belowed HH.out h2
            have h4 := h3.alloc [.bool y.any, .int .u16 y.last, .int .u32 y.mask] 30
            have a0 := h4.cell 0 rfl
            have a1 := h4.cell 1 rfl
            have a2 := h4.cell 2 rfl
            have b0 := h4.up1.cell 0 rfl
            have b1 := h4.up1.cell 1 rfl
            have b2 := h4.up1.cell 2 rfl
            have r0 := h4.up2.cell q hTq
            have H4 := Lib.hid h4
            clear h2 h3 h4 z0 z1 z2 e
            go_wp2_with fail
            refine (HPH.out _).mono ?_
            rintro e' w3 ⟨rfl, h5⟩
            have h4 := Holds.belowed H4.out h5
            clear h5 H4 a0 a1 a2 b0 b1 b2 r0
            have f0 := h4.up2.frozen q
            have rr := h4.up2.cell q hTq
            have h5 := h4.up2.set q (.bool true)
            rw [bools_set] at h5
            have y0 := h5.up1.cell 0 rfl
            have y1 := h5.up1.cell 1 rfl
            have y2 := h5.up1.cell 2 rfl
            have h6 := h5.up2.set 0 (.bool y.any)
            have h7 := h6.set 1 (.int .u16 y.last)
            have h8 := h7.set 2 (.int .u32 y.mask)
            simp only [List.set] at h8
            have g0 := h5.up2.cell 0 rfl
            have fg0 := h5.up2.frozen 0
            have g1 := h6.cell 1 rfl
            have fg1 := h6.frozen 1
            have g2 := h7.cell 2 rfl
            have fg2 := h7.frozen 2
            have H8 := Lib.hid h8
            clear h4 h5 h6 h7 h8 hTq
            go_wp2_with fail
            try rw [HTS.out]
            exact ⟨⟨k + 1, by omega, cast_succ k, T.set q true, y, by rw [List.length_set]; exact hT, HY, H8.out.up2.tail⟩, succ_less hkn⟩
        | false =>
          obtain rfl : y = x := hn2 rfl
          have hxa : y.any = true := by
            cases h : y.any with
            | true => rfl
            | false => exact absurd (hany h) (by decide)
          have tsd : decide (sd < 0) = false := by have := hn4 hxa; simp; omega
          have hinv : Inv 1000 f (fun j => (T.set q tb).getD j false) y := by rw [HSAME.out]; exact HI.out
          have HY := Lib.hid hinv
          clear hph hn1 hn2 hn3 hn4 hany hinv HN5 HPUT HSAME
          obtain ⟨ya, yl, ym⟩ := y
          dsimp only at *
          subst hxa
          cases tb with
          | true =>
            go_wp2_with fail
            refine HPT.out.mono ?_
            rintro e' w2 ⟨rfl, h2⟩
            have h3 := Holds.belowed HH.out h2
            have h4 := h3.alloc [.bool true, .int .u16 yl, .int .u32 ym] 30
            have a0 := h4.cell 0 rfl
            have a1 := h4.cell 1 rfl
            have a2 := h4.cell 2 rfl
            have b0 := h4.up1.cell 0 rfl
            have b1 := h4.up1.cell 1 rfl
            have b2 := h4.up1.cell 2 rfl
            have r0 := h4.up2.cell q hTq
            have H4 := Lib.hid h4
            have f0 := h4.up2.frozen q
            have rr := h4.up2.cell q hTq
            have h5 := h4.up2.set q (.bool true)
            rw [bools_set] at h5
            have y0 := h5.up1.cell 0 rfl
            have y1 := h5.up1.cell 1 rfl
            have y2 := h5.up1.cell 2 rfl
            have h6 := h5.up2.set 0 (.bool true)
            have h7 := h6.set 1 (.int .u16 yl)
            have h8 := h7.set 2 (.int .u32 ym)
            simp only [List.set] at h8
            have g0 := h5.up2.cell 0 rfl
            have fg0 := h5.up2.frozen 0
            have g1 := h6.cell 1 rfl
            have fg1 := h6.frozen 1
            have g2 := h7.cell 2 rfl
            have fg2 := h7.frozen 2
            have H8 := Lib.hid h8
            clear h2 h3 h4 h5 h6 h7 h8 hTq z0 z1 z2 e
            go_wp2_with fail
            refine (HST.out _).mono ?_
            rintro e' w5 ⟨rfl, rfl⟩
            go_wp2_with fail
            try rw [HTS.out]
            exact ⟨⟨k + 1, by omega, cast_succ k, T.set q true, ⟨true, yl, ym⟩, by rw [List.length_set]; exact hT, HY, H8.out.up2.tail⟩, succ_less hkn⟩
          | false =>
            go_wp2_with fail
            refine HPT.out.mono ?_
            rintro e' w2 ⟨rfl, h2⟩
            have h3 := Holds.belowed HH.out h2
            have h4 := h3.alloc [.bool true, .int .u16 yl, .int .u32 ym] 30
            have a0 := h4.cell 0 rfl
            have a1 := h4.cell 1 rfl
            have a2 := h4.cell 2 rfl
            have b0 := h4.up1.cell 0 rfl
            have b1 := h4.up1.cell 1 rfl
            have b2 := h4.up1.cell 2 rfl
            have r0 := h4.up2.cell q hTq
            have H4 := Lib.hid h4
            have f0 := h4.up2.frozen q
            have rr := h4.up2.cell q hTq
            have h5 := h4.up2.set q (.bool false)
            rw [bools_set] at h5
            have y0 := h5.up1.cell 0 rfl
            have y1 := h5.up1.cell 1 rfl
            have y2 := h5.up1.cell 2 rfl
            have h6 := h5.up2.set 0 (.bool true)
            have h7 := h6.set 1 (.int .u16 yl)
            have h8 := h7.set 2 (.int .u32 ym)
            simp only [List.set] at h8
            have g0 := h5.up2.cell 0 rfl
            have fg0 := h5.up2.frozen 0
            have g1 := h6.cell 1 rfl
            have fg1 := h6.frozen 1
            have g2 := h7.cell 2 rfl
            have fg2 := h7.frozen 2
            have H8 := Lib.hid h8
            clear h2 h3 h4 h5 h6 h7 h8 hTq z0 z1 z2 e
            go_wp2_with fail
            refine (HST.out _).mono ?_
            rintro e' w5 ⟨rfl, rfl⟩
            go_wp2_with fail
            try rw [HTS.out]
            exact ⟨⟨k + 1, by omega, cast_succ k, T.set q false, ⟨true, yl, ym⟩, by rw [List.length_set]; exact hT, HY, H8.out.up2.tail⟩, succ_less hkn⟩
      · obtain rfl : k = l.length := by omega
        have hbel := hH.below
        clear hH
        go_wp2_with fail
        go_ret
        exact ⟨rfl, hbel⟩

theorem u16_size : Try.prog.cellsOf 22 = 1 := by kernel_rfl
theorem u16_flat : flat Try.prog 3 22 = some [.int .u16] := by kernel_rfl
theorem u16_of {H : Type} {enc : TypeId × Value → H} {W : World} {base : Nat} {sp : Nat → Bool} {held : Bool} {fuel : Nat} {cs : List Value} {x : DataW H × List MemPlace}
    (hx : DataW.trod enc Try.prog W base sp held fuel 22 cs = some x) : ∃ o : Int, cs = [Value.int .u16 o] ∧ (0 ≤ o ∧ o ≤ 65535) := by
  have h0 := flat_ok 3 _ _ _ _ _ u16_flat hx
  obtain ⟨n1, c1, rfl, w1, h1⟩ := h0.int_inv
  obtain rfl := h1.nil_inv
  refine ⟨n1, rfl, ?_⟩
  simp [Lit.wf, IntKind.min, IntKind.max, IntKind.signed, IntKind.bits] at w1
  omega
set_option maxRecDepth 100000 in
theorem open_u16s {H : Type} {enc : TypeId × Value → H} {W : World} {base base' : Nat} {sp : Nat → Bool} {held : Bool} {v : Value} {d : DataW H} {ps : List MemPlace} {r : Reach}
    (hok : Value.okWide Try.prog W r base' 27 v) (h : DataW.Trod enc Try.prog W base sp held 27 v d ps) :
    ∃ l : List Int, RdL W v 1 (l.map fun n => [.int .u16 n]) ∧ ∀ o, o ∈ l → 0 ≤ o ∧ o ≤ 65535 := by
  obtain ⟨fuel, hf⟩ := trod_of Try.underlying27 hok h
  exact open_rows (P := Try.prog) (t := 27) (e := 22) Try.underlying27 1 u16_size (fun n : Int => [Value.int .u16 n]) (fun n => 0 ≤ n ∧ n ≤ 65535) (fun fuel cs x hx => u16_of hx) hf

set_option maxRecDepth 100000 in
theorem serialOnce (w : World) {H : Type} {enc : TypeId × Value → H} {base base' : Nat} {sp : Nat → Bool} {held : Bool} {d : DataW H} {ps : List MemPlace} {r : Reach} (f : Int) (wf : (Lit.int .u16 f).wf = true) (v : Value)
    (hok : Value.okWide Try.prog w r base' 27 v) (h : DataW.Trod enc Try.prog w base sp held 27 v d ps) :
    Calls Try.prog 5 #[.int .u16 f, v] w fun e' w' => e' = .returned (.bool true) ∧ Below w.heap.size w w' := by
  obtain ⟨l, hv, hwf⟩ := open_u16s hok h
  simp [Lit.wf, IntKind.min, IntKind.max, IntKind.signed, IntKind.bits] at wf
  exact serialOnce_core w f v l hv hwf (by omega) (by omega)

end Go.Proofs.Ytlhlkjllihbokaa.Ser
