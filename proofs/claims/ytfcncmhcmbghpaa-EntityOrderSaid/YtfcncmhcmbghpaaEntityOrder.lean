/- The law EntityOrder: of a formed list each part side by side is one, each ID is found where it stands, and a list turned about is none. For all lists and numbers; no condition. Here: the walk. -/
import Derived.Test.YtfcncmhcmbghpaaEntRowsP
import Derived.Test.YtfcncmhcmbghpaaAwake10
import Derived.Test.YtfcncmhcmbghpaaEntOpen
import Derived.Deep.Cut
set_option linter.unusedVariables false
set_option linter.unusedSimpArgs false
namespace Go.Proofs.Ytfcncmhcmbghpaa.Ents
open Go.Sort Go.RowKit Go.Proofs.Ytfcncmhcmbghpaa.Mem Go.Proofs.Ytfcncmhcmbghpaa.Open Go.Proofs.Ytfcncmhcmbghpaa.Num Go.Proofs.Ytfcncmhcmbghpaa.Step

theorem info_ent : (Try.prog.info? 29).map (fun i => (i.zero, i.size, i.bytes)) = some (some (.agg #[.int .i64 0, .int .i64 0, .int .i64 0, .int .i64 0, .int .i64 0, .int .i64 0, .int .i64 0, .int .i64 0]), 8, 64) := by kernel_rfl

theorem pick_at (a : Int) (n : Nat) (h0 : 0 ≤ a) (h1 : a ≤ 255) (h3 : 2 ≤ n) (h8 : n ≤ 40) : ∃ k : Nat, k < n ∧ a % (n : Int) = (k : Int) := by
  have hm0 := Int.emod_nonneg a (b := (n : Int)) (by omega)
  have hm1 := Int.emod_lt_of_pos a (b := (n : Int)) (by omega)
  exact ⟨(a % (n : Int)).toNat, by omega, by omega⟩
theorem i64b (a : Int) (h0 : -128 ≤ a) (h1 : a ≤ 4294967295) : IntKind.i64.wrap a = a := by rw [wrap_i64]; unfold wrap64; omega

set_option maxHeartbeats 400000 in
theorem entityOrder_core (w : World) (v : Value) (l : List Enty) (hv : RdL w v 8 (l.map Enty.cells)) (a : Int) (ha0 : 0 ≤ a) (ha1 : a ≤ 255) :
    Calls Try.prog 4 #[v, .int .u8 a] w fun e' w' => e' = .returned (.bool true) ∧ Below w.heap.size w w' := by
  obtain ⟨i0, hi, hz0, hz1, hz2⟩ := info_parts info_ent
  have HV := Lib.hid hv
  obtain ⟨A, c, rfl, hc, hm, hr⟩ := cells_at hv
  have HR := Lib.hid hr
  clear hr hv
  have HM := Lib.hid hm
  clear hm
  have hlist : ∀ w' rb, listB l = rb → Below w.heap.size w w' → Calls Try.prog 16 #[.slice A l.length c] w' fun e w'' => e = .returned (.bool rb) ∧ Below w'.heap.size w' w'' := fun w' rb hrb hb => by
    have := elist w' _ l (RdL.below HV.out hb)
    rw [hrb] at this
    exact this
  have HLIST := Lib.hid hlist
  clear hlist
  by_cases hbig : 40 < l.length
  · have hb : (40 : Int) < (l.length : Int) := by omega
    go_enter Try.func4, Try.ntmps4
    go_wp2_with fail
    refine (awake10 _).mono ?_
    rintro e' w1 ⟨rfl, h1⟩
    go_wp2_with fail
    refine (awake10 _).mono ?_
    rintro e' w3 ⟨rfl, h4⟩
    go_wp2_with fail
    go_ret
    exact ⟨rfl, h1.trans (h4.mono h1.size)⟩
  · have hb : ¬ (40 : Int) < (l.length : Int) := by omega
    cases hrb : listB l with
    | false =>
      have HRB := Lib.hid hrb
      clear hrb
      go_enter Try.func4, Try.ntmps4
      go_wp2_with fail
      refine (awake10 _).mono ?_
      rintro e' w1 ⟨rfl, h1⟩
      go_wp2_with fail
      refine (HLIST.out _ _ HRB.out h1).mono ?_
      rintro e' w2 ⟨rfl, h2⟩
      have h3 := h1.trans (h2.mono h1.size)
      clear h1 h2
      go_wp2_with fail
      refine (awake10 _).mono ?_
      rintro e' w3 ⟨rfl, h4⟩
      go_wp2_with fail
      go_ret
      exact ⟨rfl, h3.trans (h4.mono h3.size)⟩
    | true =>
      have HRB := Lib.hid hrb
      clear hrb
      by_cases hsh : l.length < 2
      · have hb2 : (l.length : Int) < 2 := by omega
        go_enter Try.func4, Try.ntmps4
        go_wp2_with fail
        refine (awake10 _).mono ?_
        rintro e' w1 ⟨rfl, h1⟩
        go_wp2_with fail
        refine (HLIST.out _ _ HRB.out h1).mono ?_
        rintro e' w2 ⟨rfl, h2⟩
        have h3 := h1.trans (h2.mono h1.size)
        clear h1 h2
        go_wp2_with fail
        refine (awake10 _).mono ?_
        rintro e' w3 ⟨rfl, h4⟩
        go_wp2_with fail
        go_ret
        exact ⟨rfl, h3.trans (h4.mono h3.size)⟩
      · have tb : decide ((40 : Int) < (l.length : Int)) = false := by simp; omega
        have tb2 : decide ((l.length : Int) < 2) = false := by simp; omega
        have HIL := Lib.hid ((listB_true l).1 HRB.out)
        obtain ⟨b, off, rfl, hlt, _⟩ := HR.out 0 (by omega)
        have tw1 : IntKind.i64.wrap a = a := i64b _ (by omega) (by omega)
        have tz : ((l.length : Int) == 0) = false := beq_eq_false_iff_ne.2 (by omega)
        have tz2 : ¬ l.length = 0 := by omega
        obtain ⟨k, hkl, hka⟩ := pick_at a l.length ha0 ha1 (by omega) (by omega)
        have k0 : (0 : Int) ≤ (k : Int) := by omega
        have tl : IntKind.i64.wrap ((l.length : Int) - 1) = (l.length : Int) - 1 := i64b _ (by omega) (by omega)
        have HLL := Lib.hid (And.intro hbig hsh)
        have HKL := Lib.hid hkl
        clear hbig hsh hb
        go_enter Try.func4, Try.ntmps4
        go_wp2_with fail
        refine (awake10 _).mono ?_
        rintro e' w1 ⟨rfl, h1⟩
        go_wp2_with fail
        refine (HLIST.out _ _ HRB.out h1).mono ?_
        rintro e' w2 ⟨rfl, h2⟩
        have h3 := h1.trans (h2.mono h1.size)
        have H7 := Lib.hid ((Holds.belowed (Holds.start w) h3).nilrow 29 8)
        clear h1 h2 h3
        go_upto_region 4 with (fail)
        try rw [hka]
        clear hka
        go_wp2_with fail
        go_loopw [6, 7] (fun t i wr => ∃ m : Nat, m ≤ l.length ∧ i = .int .i64 ((m : Int) - 1) ∧ Holds w w.heap.size wr (.rw t 29 8 (l.length - m) (cellsL (l.reverse.take (l.length - m))) :: []))
          (fun _ i _ => (intOf i + 1).toNat)
        case atStart => exact ⟨l.length, Nat.le_refl _, rfl, by rw [Nat.sub_self]; exact H7.out⟩
        case round =>
          obtain ⟨m, hm1, rfl, hH⟩ := hrel
          clear H7
          cases m with
          | zero =>
            have hi0 : ¬ (0 : Int) ≤ ((0 : Nat) : Int) - 1 := by omega
            rw [Nat.sub_zero, List.take_of_length_le (by simp)] at hH
            obtain ⟨A7, c7, rfl⟩ := hH.slice
            have hkl := HKL.out
            have k1 : (k : Int) < (l.length : Int) := by omega
            have k2 : (k : Int) ≤ (c : Int) := by omega
            have k3 : (k : Int) ≤ (l.length : Int) := by omega
            have hck : ¬ c = k := by omega
            have hm := HM.out
            obtain ⟨b', off', hA, _, d0, _⟩ := HR.out k hkl
            obtain ⟨rfl, rfl⟩ := some_addr hA
            clear hA
            have E0 := cell_regrown ((hH.below.cell (p := ⟨b, off + k * 8, none⟩) hlt).trans d0)
            clear d0
            have hbl : ∀ d os, Below w.heap.size w (grow (redrawn wr d) os) := fun d os => hH.below.trans ((below_regrown wr d os).mono hH.size)
            have HC1 : Hid (∀ d os, Calls Try.prog 16 #[.slice (some ⟨b, off, none⟩) k c] (grow (redrawn wr d) os) fun e w'' => e = .returned (.bool true) ∧ ∃ p : Regrown, w'' = grow (redrawn wr p.d) p.os) := fun d os => Calls.regrown_of (by
              have h1 := RdL.part (RdL.below HV.out (hbl d os)) 0 k c (by omega) (by omega) hm
              rw [List.drop_zero, Nat.zero_mul, Nat.add_zero] at h1
              have := elist (grow (redrawn wr d) os) _ _ h1
              rwa [list_take l k HIL.out] at this)
            have HC2 : Hid (∀ d os, Calls Try.prog 16 #[.slice (some ⟨b, off + k * 8, none⟩) (l.length - k) (c - k)] (grow (redrawn wr d) os) fun e w'' => e = .returned (.bool true) ∧ ∃ p : Regrown, w'' = grow (redrawn wr p.d) p.os) := fun d os => Calls.regrown_of (by
              have h1 := RdL.part (RdL.below HV.out (hbl d os)) k (l.length - k) (c - k) (by omega) (by omega) (by omega)
              rw [List.take_of_length_le (by rw [List.length_drop]; omega)] at h1
              have := elist (grow (redrawn wr d) os) _ _ h1
              rwa [list_drop l k HIL.out] at this)
            have HC3 : Hid (∀ d os, Calls Try.prog 18 #[.slice (some ⟨b, off, none⟩) l.length c, .int .i64 (el l k).id] (grow (redrawn wr d) os) fun e w'' => e = .returned (.int .i64 (k : Int)) ∧ ∃ p : Regrown, w'' = grow (redrawn wr p.d) p.os) := fun d os => Calls.regrown_of (by
              have := efind (grow (redrawn wr d) os) _ l (el l k).id (RdL.below HV.out (hbl d os))
              rwa [find_at l HIL.out k hkl] at this)
            have HC4 : Hid (∀ d os, Calls Try.prog 16 #[.slice A7 l.length c7] (grow (redrawn wr d) os) fun e w'' => e = .returned (.bool false) ∧ ∃ p : Regrown, w'' = grow (redrawn wr p.d) p.os) := fun d os => Calls.regrown_of (by
              have h3 := Holds.belowed hH (below_regrown wr d os)
              have h3' : Holds w w.heap.size (grow (redrawn wr d) os) (.rw (.slice A7 l.length c7) 29 8 l.reverse.length (cellsL l.reverse) :: []) := by rw [List.length_reverse]; exact h3
              have := elist (grow (redrawn wr d) os) _ l.reverse (Holds.rdL h3')
              rwa [list_rev l HIL.out (by have := HLL.out; omega)] at this)
            have HC5 : Hid (∀ d os, Calls Try.prog 18 #[.slice (some ⟨b, off, none⟩) k c, .int .i64 (el l k).id] (grow (redrawn wr d) os) fun e w'' => e = .returned (.int .i64 (-1)) ∧ ∃ p : Regrown, w'' = grow (redrawn wr p.d) p.os) := fun d os => Calls.regrown_of (by
              have h1 := RdL.part (RdL.below HV.out (hbl d os)) 0 k c (by omega) (by omega) hm
              rw [List.drop_zero, Nat.zero_mul, Nat.add_zero] at h1
              have := efind (grow (redrawn wr d) os) _ _ (el l k).id h1
              rwa [find_not l HIL.out k hkl] at this)
            have hbel := hH.below
            have hsz := hH.size
            clear hH hbl hm
            go_wp2_with fail
            clear hi0
            have te : ((k : Int) == (k : Int)) = true := by simp
            refine wp_region_quiet_below (by kernel_rfl) (by kernel_rfl) ?_
            repeat (go_big_quiet_step (first | (go_at_call 16; with_reducible exact HC1.out _ _) | (go_at_call 16; with_reducible exact HC2.out _ _) | (go_at_call 16; with_reducible exact HC4.out _ _) | (go_at_call 18; with_reducible exact HC3.out _ _) | (go_at_call 18; with_reducible exact HC5.out _ _)))
            refine wpQuiet_nil ?_
            intro _ hw'
            obtain ⟨⟨dq, osq⟩, hw''⟩ := hw'
            subst hw''
            have hbx := below_regrown wr dq osq
            clear E0
            generalize grow (redrawn wr dq) osq = w4 at *
            have hbw : Below w.heap.size w w4 := hbel.trans (hbx.mono hsz)
            go_wp2_with fail
            go_ret
            exact ⟨rfl, hbw⟩
          | succ n =>
            rw [show (((n + 1 : Nat) : Int) - 1) = (n : Int) by omega]
            obtain ⟨A7, c7, rfl⟩ := hH.slice
            obtain ⟨b', off', hA, _, c0, c1, c2, c3, c4, c5, c6, cz⟩ := HR.out n (by omega)
            obtain ⟨rfl, rfl⟩ := some_addr hA
            clear hA
            have e0 := (hH.below.cell (p := ⟨b, off + n * 8, none⟩) hlt).trans c0
            have e1 := (hH.below.cell (p := ⟨b, off + n * 8 + 1, none⟩) hlt).trans c1
            have e2 := (hH.below.cell (p := ⟨b, off + n * 8 + 2, none⟩) hlt).trans c2
            have e3 := (hH.below.cell (p := ⟨b, off + n * 8 + 3, none⟩) hlt).trans c3
            have e4 := (hH.below.cell (p := ⟨b, off + n * 8 + 4, none⟩) hlt).trans c4
            have e5 := (hH.below.cell (p := ⟨b, off + n * 8 + 5, none⟩) hlt).trans c5
            have e6 := (hH.below.cell (p := ⟨b, off + n * 8 + 6, none⟩) hlt).trans c6
            have e7 := (hH.below.cell (p := ⟨b, off + n * 8 + 7, none⟩) hlt).trans cz
            have n0 : (0 : Int) ≤ (n : Int) := by omega
            have n1 : (n : Int) < (l.length : Int) := by omega
            have tn : IntKind.i64.wrap ((n : Int) - 1) = (n : Int) - 1 := i64b _ (by omega) (by have := HLL.out; omega)
            have hown := hH.own
            have hsz := hH.size
            have HH := Lib.hid hH
            clear c0 c1 c2 c3 c4 c5 c6 cz hH
            go_upto_region 8 with (fail)
            refine wp_region_lit ?_
            refine wpList_plain rfl (fun K hK => ?_)
            go_simp
            refine hK _ _ ?_
            clear hK K
            refine wpList_plain rfl (fun K hK => ?_)
            go_simp
            refine hK _ _ ?_
            clear hK K
            refine wpList_plain rfl (fun K hK => ?_)
            go_simp
            refine hK _ _ ?_
            clear hK K
            refine wpList_plain rfl (fun K hK => ?_)
            go_simp
            refine hK _ _ ?_
            clear hK K
            refine wpList_plain rfl (fun K hK => ?_)
            go_simp
            refine hK _ _ ?_
            clear hK K
            refine wpList_plain rfl (fun K hK => ?_)
            go_simp
            refine hK _ _ ?_
            clear hK K
            refine wpList_append_own_at _ rfl (.tmp 38) (.tmp 43) 22 rfl w.heap.size 29 i0 (.agg #[.int .i64 0, .int .i64 0, .int .i64 0, .int .i64 0, .int .i64 0, .int .i64 0, .int .i64 0, .int .i64 0]) 8 64 Try.underlying22 hi hz0 hz1 hz2 rfl (by decide) _ _ _ rfl (hown.alloc _) ⟨wr.heap.size, 0, none⟩ 1 1 (el l n).cells rfl rfl ?f2 ?f3 ?f4 ?f5 ?f6 ?_
            case f2 => intro j u hu; rw [add_none, Nat.zero_add]; exact cell_one_new' _ _ _ j u (by simpa [Enty.cells] using hu)
            case f3 => intro u hu; exact cellsL_one [el l n] u (by simpa [cellsL] using hu)
            case f4 => unfold maxLen; have := HLL.out; omega
            case f5 => have := HLL.out; omega
            case f6 => simp; omega
            intro v8 w8 ho hg _ hat
            have h8 := (HH.out.alloc' _).grew ho hg (hat.imp id (fun h => ⟨_, h, Nat.le_refl _⟩))
            clear ho hg hat hown e0 e1 e2 e3 e4 e5 e6 e7
            have H8 := Lib.hid h8
            clear h8 HH
            go_wp2_with fail
            refine ⟨⟨n, by omega, rfl, ?_⟩, by simp [intOf]⟩
            have h9 := H8.out
            have eN : l.length - n = l.length - (n + 1) + 1 := by omega
            have eT : cellsL (l.reverse.take (l.length - n)) = cellsL (l.reverse.take (l.length - (n + 1))) ++ (el l n).cells := by
              rw [eN, List.take_add_one, el_get l.reverse _ (by rw [List.length_reverse]; omega), el_rev _ _ (by omega), cellsL_append, show l.length - 1 - (l.length - (n + 1)) = n by omega]
              simp [cellsL]
            rw [eT, eN]
            exact h9

theorem entityOrder (w : World) {H : Type} {enc : TypeId × Value → H} {base base' : Nat} {sp : Nat → Bool} {held : Bool} {d : DataW H} {ps : List MemPlace} {r : Reach} (v : Value)
    (hok : Value.okWide Try.prog w r base' 22 v) (h : DataW.Trod enc Try.prog w base sp held 22 v d ps) (a : Int) (wa : (Lit.int .u8 a).wf = true) :
    Calls Try.prog 4 #[v, .int .u8 a] w fun e' w' => e' = .returned (.bool true) ∧ Below w.heap.size w w' := by
  obtain ⟨l, hv, hwf⟩ := open_ents hok h
  simp [Lit.wf, IntKind.min, IntKind.max, IntKind.signed, IntKind.bits] at wa
  exact entityOrder_core w v l hv a (by omega) (by omega)

end Go.Proofs.Ytfcncmhcmbghpaa.Ents
