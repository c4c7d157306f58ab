/- The law SerialRow: of 33 numbers, one behind the other, those that are taken, in whatever order, are had, and the others aren't. For all numbers and orders; no condition. Here: the walk. -/
import Derived.Test.YtlhlkjllihbokaaSerW
import Derived.Deep.Cut
set_option linter.unusedVariables false
set_option linter.unusedSimpArgs false
namespace Go.Proofs.Ytlhlkjllihbokaa.Ser
open Go.Sort Go.RowKit Go.Deep Go.WideShapes Go.ChangeShapes Go.Proofs.Ytlhlkjllihbokaa.Mem Go.Proofs.Ytlhlkjllihbokaa.Open Go.Proofs.Ytlhlkjllihbokaa.Num Go.Proofs.Ytlhlkjllihbokaa.Step

theorem RdL.below {W w : World} {v : Value} {size : Nat} {xs : List (List Value)} (h : RdL W v size xs) (hb : Below W.heap.size W w) : RdL w v size xs :=
  h.kept fun a u hu => by
    have := World.block_lt_of_cell? W a hu
    exact (hb.cell (p := a) this).trans hu

def el (l : List Int) (j : Nat) : Int := l.getD j 0
theorem el_get (l : List Int) (j : Nat) (h : j < l.length) : l[j]? = some (el l j) := by
  unfold el
  rw [List.getD_eq_getElem?_getD, List.getElem?_eq_getElem h]
  rfl
theorem el_mem (l : List Int) (j : Nat) (h : j < l.length) : el l j ∈ l := List.mem_of_getElem? (el_get l j h)

theorem nums_at {w : World} {v : Value} {ik : IntKind} {l : List Int} (h : RdL w v 1 (l.map fun n => [.int ik n])) :
    ∃ A c, v = .slice A l.length c ∧ l.length ≤ c ∧ c ≤ maxLen ∧ ∀ i, i < l.length → ∃ b off, A = some ⟨b, off, none⟩ ∧ b < w.heap.size ∧ w.cell? ⟨b, off + i, none⟩ = some (.int ik (el l i)) := by
  obtain ⟨A, c, hv, hc, hm, hr⟩ := h.form (by decide)
  rw [List.length_map] at hv hc
  refine ⟨A, c, hv, hc, hm, fun i hi => ?_⟩
  obtain ⟨b, off, hA, hb, hr⟩ := hr i (by rw [List.length_map]; exact hi)
  have he : (l.map fun n => [Value.int ik n])[i]? = some [.int ik (el l i)] := by rw [List.getElem?_map, el_get l i hi]; rfl
  refine ⟨b, off, hA, hb, ?_⟩
  have := hr _ he 0 _ rfl
  simpa using this

theorem u8_size : Try.prog.cellsOf 5 = 1 := by kernel_rfl
theorem u8_flat : flat Try.prog 3 5 = some [.int .u8] := by kernel_rfl
theorem u8_of {H : Type} {enc : TypeId × Value → H} {W : World} {base : Nat} {sp : Nat → Bool} {held : Bool} {fuel : Nat} {cs : List Value} {x : DataW H × List MemPlace}
    (hx : DataW.trod enc Try.prog W base sp held fuel 5 cs = some x) : ∃ o : Int, cs = [Value.int .u8 o] ∧ (0 ≤ o ∧ o ≤ 255) := by
  have h0 := flat_ok 3 _ _ _ _ _ u8_flat hx
  obtain ⟨n1, c1, rfl, w1, h1⟩ := h0.int_inv
  obtain rfl := h1.nil_inv
  refine ⟨n1, rfl, ?_⟩
  simp [Lit.wf, IntKind.min, IntKind.max, IntKind.signed, IntKind.bits] at w1
  omega
set_option maxRecDepth 100000 in
theorem open_u8s {H : Type} {enc : TypeId × Value → H} {W : World} {base base' : Nat} {sp : Nat → Bool} {held : Bool} {v : Value} {d : DataW H} {ps : List MemPlace} {r : Reach}
    (hok : Value.okWide Try.prog W r base' 36 v) (h : DataW.Trod enc Try.prog W base sp held 36 v d ps) :
    ∃ l : List Int, RdL W v 1 (l.map fun n => [.int .u8 n]) ∧ ∀ o, o ∈ l → 0 ≤ o ∧ o ≤ 255 := by
  obtain ⟨fuel, hf⟩ := trod_of Try.underlying36 hok h
  exact open_rows (P := Try.prog) (t := 36) (e := 5) Try.underlying36 1 u8_size (fun n : Int => [Value.int .u8 n]) (fun n => 0 ≤ n ∧ n ≤ 255) (fun fuel cs x hx => u8_of hx) hf

theorem u16c (a : Int) (h0 : 0 ≤ a) (h1 : a ≤ 65535) : IntKind.u16.wrap a = a := by simp [IntKind.wrap, IntKind.bits, IntKind.signed]; omega
theorem u16w (a : Int) : IntKind.u16.wrap a = a % 65536 := by simp [IntKind.wrap, IntKind.bits, IntKind.signed]

theorem rep_false (n j : Nat) : (List.replicate n false).getD j false = false := by
  rw [List.getD_eq_getElem?_getD, List.getElem?_replicate]
  split <;> rfl

def boolsV (T : List Bool) : List Value := T.map .bool
theorem bools_get (T : List Bool) (j : Nat) (h : j < T.length) : (boolsV T)[j]? = some (.bool (T.getD j false)) := by
  unfold boolsV
  rw [List.getElem?_map, List.getD_eq_getElem?_getD, List.getElem?_eq_getElem h]
  rfl
theorem bools_set (T : List Bool) (j : Nat) (b : Bool) : (boolsV T).set j (.bool b) = boolsV (T.set j b) := by
  unfold boolsV
  rw [List.map_set]
theorem set_put (T : List Bool) (k : Nat) (h : k < T.length) : (fun j => (T.set k true).getD j false) = put (fun j => T.getD j false) k := by
  funext j
  unfold put
  simp only [List.getD_eq_getElem?_getD, List.getElem?_set]
  by_cases hj : j = k
  · subst hj; simp [h]
  · rw [if_neg (fun e => hj e.symm), if_neg hj]
theorem put_same (T : Nat → Bool) (k : Nat) (h : T k = true) : put T k = T := by
  funext j
  unfold put
  split
  · rename_i hj; subst hj; exact h.symm
  · rfl
theorem inv_mask {N : Nat} {f : Int} {T : Nat → Bool} {w : Win} (h : Inv N f T w) : 0 ≤ w.mask ∧ w.mask < 4294967296 := by
  rcases h with ⟨_, _, h, _⟩ | ⟨_, m, _, _, _, _, h1, h2, _⟩
  · rw [h]; decide
  · exact ⟨h1, h2⟩
/-- What a round leaves. -/
theorem take_next {f : Int} {T : List Bool} {w : Win} (hT : T.length = 33) (h : Inv 33 f (fun j => T.getD j false) w) (k : Nat) (hk : k < 33) (x : Win) (ok : Bool) (he : takeW w ((f + (k : Int)) % 65536) = (x, ok)) :
    ok = !(T.getD k false) ∧ Inv 33 f (fun j => (T.set k true).getD j false) x := by
  have h1 := take_inv (by decide) h k hk x ok he
  have h2 := h1.2.2.2.2.2 (by decide)
  have h3 := h1.2.2.2.2.1
  refine ⟨h2, ?_⟩
  rw [set_put T k (by omega)]
  cases ok with
  | true => simpa using h3
  | false =>
    rw [if_neg (by decide)] at h3
    rw [put_same _ k (by simpa using h2)]
    exact h3

set_option maxHeartbeats 1000000 in
theorem serialRow_core (w : World) (f : Int) (v : Value) (l : List Int) (hv : RdL w v 1 (l.map fun n => [.int .u8 n])) (hwf : ∀ o, o ∈ l → 0 ≤ o ∧ o ≤ 255) (hf0 : 0 ≤ f) (hf1 : f ≤ 65535) :
    Calls Try.prog 6 #[.int .u16 f, v] w fun e' w' => e' = .returned (.bool true) ∧ Below w.heap.size w w' := by
  obtain ⟨A, c, rfl, hc, hm, hr⟩ := nums_at hv
  have HR := Lib.hid hr
  have HWF := Lib.hid hwf
  clear hr hv hm hwf
  by_cases hbig : 200 < l.length
  · have hb : (200 : Int) < (l.length : Int) := by omega
    go_enter Try.func6, Try.ntmps6
    go_wp2_with fail
    refine (awakeS _).mono ?_
    rintro e' w1 ⟨rfl, rfl⟩
    go_wp2_with fail
    refine (awakeS _).mono ?_
    rintro e' w3 ⟨rfl, rfl⟩
    go_wp2_with fail
    go_ret
    exact ⟨rfl, Below.refl _ _⟩
  · have hb : ¬ (200 : Int) < (l.length : Int) := by omega
    have h0 := (Holds.start w).alloc [.bool false, .int .u16 0, .int .u32 0] 30
    have hs1 : (w.alloc (.cells #[.bool false, .int .u16 0, .int .u32 0] 30)).heap.size = w.heap.size + 1 := by simp
    have h1 := h0.alloc (boolsV (List.replicate 33 false)) 37
    rw [hs1] at h1
    have H1 := Lib.hid h1.up1
    clear h0 h1 hs1
    go_enter Try.func6, Try.ntmps6
    go_wp2_with fail
    refine (awakeS _).mono ?_
    rintro e' w1 ⟨rfl, rfl⟩
    go_wp2_with fail
    go_loopw [7] (fun i wr => ∃ k : Nat, k ≤ l.length ∧ i = .int .i64 k ∧ ∃ (T : List Bool) (x : Win), T.length = 33 ∧ Hid (Inv 33 f (fun j => T.getD j false) x) ∧
        Holds w w.heap.size wr [.st w.heap.size [.bool x.any, .int .u16 x.last, .int .u32 x.mask] 30, .st (w.heap.size + 1) (boolsV T) 37])
      (fun i _ => l.length - (intOf i).toNat)
    case atStart =>
      refine ⟨0, Nat.zero_le _, rfl, List.replicate 33 false, ⟨false, 0, 0⟩, by decide, Lib.hid (.inl ⟨rfl, rfl, rfl, fun j => ?_⟩), H1.out⟩
      exact rep_false 33 j
    case round =>
      obtain ⟨k, hk, rfl, T, x, hT, HI, hH⟩ := hrel
      clear H1
      obtain ⟨hm0, hm1⟩ := inv_mask HI.out
      by_cases hkn : k < l.length
      · obtain ⟨b, off, rfl, hlt, c0⟩ := HR.out k hkn
        have ho := HWF.out _ (el_mem l k hkn)
        obtain ⟨q, hq⟩ : ∃ q : Nat, el l k % 33 = (q : Int) := ⟨(el l k % 33).toNat, by omega⟩
        have hq33 : q < 33 := by omega
        have e := (hH.below.cell (p := ⟨b, off + k, none⟩) hlt).trans c0
        clear c0
        have k0 : (0 : Int) ≤ (k : Int) := by omega
        have k1 : (k : Int) < (l.length : Int) := by omega
        have q0 : (0 : Int) ≤ (q : Int) := by omega
        have q1 : (q : Int) < 33 := by omega
        have HTS := Lib.hid (succ_len k (show k < maxLen by unfold maxLen; omega))
        have tq1 : IntKind.i64.wrap (q : Int) = (q : Int) := i64c _ (by omega) (by omega)
        have tq2 : IntKind.u16.wrap (q : Int) = (q : Int) := u16c _ (by omega) (by omega)
        obtain ⟨n, hn⟩ : ∃ n, (f + (q : Int)) % 65536 = n := ⟨_, rfl⟩
        have tn : IntKind.u16.wrap (f + (q : Int)) = n := by rw [← hn]; exact u16w _
        obtain ⟨⟨y, ok⟩, hy⟩ : ∃ y, takeW x n = y := ⟨_, rfl⟩
        have hnext := take_next hT HI.out q hq33 y ok (by rw [hn]; exact hy)
        obtain ⟨hok, hinv⟩ := hnext
        have hpt := ptake wr x.any x.last x.mask n hm0 hm1
        rw [show (⟨x.any, x.last, x.mask⟩ : Win) = x from rfl, hy] at hpt
        have hpt2 : Calls Try.prog 16 #[.agg #[.bool x.any, .int .u16 x.last, .int .u32 x.mask], .int .u16 n] wr fun e' w' => e' = .returned (.tuple #[.agg #[.bool y.any, .int .u16 y.last, .int .u32 y.mask], .bool ok]) ∧ Below wr.heap.size wr w' := hpt
        have HPT := Lib.hid hpt2
        have HY := Lib.hid hinv
        have z0 := hH.cell 0 rfl
        have z1 := hH.cell 1 rfl
        have z2 := hH.cell 2 rfl
        have HH := Lib.hid hH
        clear hpt hpt2 hinv hH hn hy
        go_wp2_with fail
        refine HPT.out.mono ?_
        rintro e' w2 ⟨rfl, h2⟩
        have h3 := Holds.belowed HH.out h2
        have h4 := h3.alloc [.bool y.any, .int .u16 y.last, .int .u32 y.mask] 30
        have hTq := bools_get T q (by omega)
        obtain ⟨tb, htb⟩ : ∃ tb, T.getD q false = tb := ⟨_, rfl⟩
        rw [htb] at hTq
        rw [htb] at hok
        subst hok
        have r0 := h4.up2.cell q hTq
        have f0 := h4.up2.frozen q
        have h5 := h4.up2.set q (.bool true)
        rw [bools_set] at h5
        have y0 := h5.up1.cell 0 rfl
        have y1 := h5.up1.cell 1 rfl
        have y2 := h5.up1.cell 2 rfl
        have h6 := h5.up2.set 0 (.bool y.any)
        have h7 := h6.set 1 (.int .u16 y.last)
        have h8 := h7.set 2 (.int .u32 y.mask)
        simp only [List.set] at h8
        have g0 := h5.up2.cell 0 rfl
        have fg0 := h5.up2.frozen 0
        have g1 := h6.cell 1 rfl
        have fg1 := h6.frozen 1
        have g2 := h7.cell 2 rfl
        have fg2 := h7.frozen 2
        have H8 := Lib.hid h8
        have te : ((!tb) == tb) = false := by cases tb <;> rfl
        clear h2 h3 h4 h5 h6 h7 h8 hTq z0 z1 z2 e
        go_wp2_with fail
        try rw [HTS.out]
        exact ⟨⟨k + 1, by omega, cast_succ k, T.set q true, y, by rw [List.length_set]; exact hT, HY, H8.out.up2.tail⟩, succ_less hkn⟩
      · obtain rfl : k = l.length := by omega
        have HH := Lib.hid hH
        clear hH
        go_wp2_with fail
        go_loopw [11] (fun i wr => ∃ k : Nat, k ≤ 33 ∧ i = .int .i64 k ∧ Holds w w.heap.size wr [.st w.heap.size [.bool x.any, .int .u16 x.last, .int .u32 x.mask] 30, .st (w.heap.size + 1) (boolsV T) 37])
          (fun i _ => 33 - (intOf i).toNat)
        case atStart => exact ⟨0, Nat.zero_le _, rfl, HH.out⟩
        case round =>
          clear HH
          obtain ⟨k, hk2, rfl, hH⟩ := hrel
          by_cases hkn2 : k < 33
          · have HTS := Lib.hid (succ_len k (show k < maxLen by unfold maxLen; omega))
            have k0 : (0 : Int) ≤ (k : Int) := by omega
            have k1 : (k : Int) < 33 := by omega
            have tk2 : IntKind.u16.wrap (k : Int) = (k : Int) := u16c _ (by omega) (by omega)
            have hhas := has_inv (by decide) HI.out k hkn2
            obtain ⟨n, hn⟩ : ∃ n, (f + (k : Int)) % 65536 = n := ⟨_, rfl⟩
            have tn : IntKind.u16.wrap (f + (k : Int)) = n := by rw [← hn]; exact u16w _
            rw [hn] at hhas
            obtain ⟨tb, htb⟩ : ∃ tb, T.getD k false = tb := ⟨_, rfl⟩
            have hTk := bools_get T k (by omega)
            rw [htb] at hTk
            simp only [htb] at hhas
            have HC : Hid (∀ d os, Calls Try.prog 17 #[.agg #[.bool x.any, .int .u16 x.last, .int .u32 x.mask], .int .u16 n] (grow (redrawn wr d) os) fun e w'' => e = .returned (.bool tb) ∧ ∃ p : Regrown, w'' = grow (redrawn wr p.d) p.os) := fun d os => Calls.regrown_of (by
              have := phas (grow (redrawn wr d) os) x.any x.last x.mask n hm0 hm1
              rw [show (⟨x.any, x.last, x.mask⟩ : Win) = x from rfl, hhas] at this
              exact this)
            have E0 := cell_regrown (hH.cell 0 rfl)
            have E1 := cell_regrown (hH.cell 1 rfl)
            have E2 := cell_regrown (hH.cell 2 rfl)
            have E3 := cell_regrown (hH.up1.cell k hTk)
            have HH := Lib.hid hH
            have te : (tb != tb) = false := by simp
            clear hH hTk hhas hn htb
            go_wp2_with fail
            refine wp_region_quiet_below (by kernel_rfl) (by kernel_rfl) ?_
            repeat (go_big_quiet_step ((go_at_call 17; with_reducible exact HC.out _ _)))
            refine wpQuiet_nil ?_
            intro _ hw'
            obtain ⟨⟨dq, osq⟩, hw''⟩ := hw'
            subst hw''
            have hbx := below_regrown wr dq osq
            clear E0 E1 E2 E3
            generalize grow (redrawn wr dq) osq = w4 at *
            have hbw := Holds.belowed HH.out hbx
            go_wp2_with fail
            try rw [HTS.out]
            exact ⟨⟨k + 1, by omega, cast_succ k, hbw⟩, succ_less hkn2⟩
          · obtain rfl : k = 33 := by omega
            have hbel := hH.below
            clear hH
            go_wp2_with fail
            go_ret
            exact ⟨rfl, hbel⟩

set_option maxRecDepth 100000 in
theorem serialRow (w : World) {H : Type} {enc : TypeId × Value → H} {base base' : Nat} {sp : Nat → Bool} {held : Bool} {d : DataW H} {ps : List MemPlace} {r : Reach} (f : Int) (wf : (Lit.int .u16 f).wf = true) (v : Value)
    (hok : Value.okWide Try.prog w r base' 36 v) (h : DataW.Trod enc Try.prog w base sp held 36 v d ps) :
    Calls Try.prog 6 #[.int .u16 f, v] w fun e' w' => e' = .returned (.bool true) ∧ Below w.heap.size w w' := by
  obtain ⟨l, hv, hwf⟩ := open_u8s hok h
  simp [Lit.wf, IntKind.min, IntKind.max, IntKind.signed, IntKind.bits] at wf
  exact serialRow_core w f v l hv hwf (by omega) (by omega)

end Go.Proofs.Ytlhlkjllihbokaa.Ser
