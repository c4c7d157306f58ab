/- An entity put on a base, by the reference. -/
import Derived.Test.YtfcncmhcmbghpaaEPut
import Derived.Test.YtfcncmhcmbghpaaERForm
import Derived.Test.YtfcncmhcmbghpaaRef6b
set_option linter.unusedVariables false
set_option linter.unusedSimpArgs false
namespace Go.Proofs.Ytfcncmhcmbghpaa.Ents
open Go.Sort Go.RowKit Go.Proofs.Ytfcncmhcmbghpaa.Mem Go.Proofs.Ytfcncmhcmbghpaa.Open Go.Proofs.Ytfcncmhcmbghpaa.Num Go.Proofs.Ytfcncmhcmbghpaa.Step Go.Proofs.Ytfcncmhcmbghpaa.Wr Go.Proofs.Ytfcncmhcmbghpaa.Bits

set_option maxHeartbeats 1000000 in
theorem rfield (w : World) (e : Enty) (k : Nat) (hk : k < 6) : Calls Try.prog 45 #[.agg #[.int .i64 e.id, .int .i64 e.kind, .int .i64 e.x, .int .i64 e.y, .int .i64 e.vx, .int .i64 e.vy, .int .i64 e.hp, .int .i64 e.wt], .int .i64 (k : Int)] w fun e' w' => e' = .returned (.int .i64 (fi e k)) ∧ Below w.heap.size w w' := by
  have hH := (Holds.start w).alloc [.int .i64 e.id, .int .i64 e.kind, .int .i64 e.x, .int .i64 e.y, .int .i64 e.vx, .int .i64 e.vy, .int .i64 e.hp, .int .i64 e.wt] 29
  have e0 := hH.cell 0 rfl
  have e1 := hH.cell 1 rfl
  have e2 := hH.cell 2 rfl
  have e3 := hH.cell 3 rfl
  have e4 := hH.cell 4 rfl
  have e5 := hH.cell 5 rfl
  have e6 := hH.cell 6 rfl
  have e7 := hH.cell 7 rfl
  have HB := Lib.hid hH.below
  clear hH
  obtain rfl | rfl | rfl | rfl | rfl | rfl : k = 0 ∨ k = 1 ∨ k = 2 ∨ k = 3 ∨ k = 4 ∨ k = 5 := by omega
  · rw [show ((0 : Nat) : Int) = 0 from rfl]
    go_enter Try.func45, Try.ntmps45
    go_wp2_with fail
    go_ret
    exact ⟨rfl, HB.out⟩
  · rw [show ((1 : Nat) : Int) = 1 from rfl]
    go_enter Try.func45, Try.ntmps45
    go_wp2_with fail
    go_ret
    exact ⟨rfl, HB.out⟩
  · rw [show ((2 : Nat) : Int) = 2 from rfl]
    go_enter Try.func45, Try.ntmps45
    go_wp2_with fail
    go_ret
    exact ⟨rfl, HB.out⟩
  · rw [show ((3 : Nat) : Int) = 3 from rfl]
    go_enter Try.func45, Try.ntmps45
    go_wp2_with fail
    go_ret
    exact ⟨rfl, HB.out⟩
  · rw [show ((4 : Nat) : Int) = 4 from rfl]
    go_enter Try.func45, Try.ntmps45
    go_wp2_with fail
    go_ret
    exact ⟨rfl, HB.out⟩
  · rw [show ((5 : Nat) : Int) = 5 from rfl]
    go_enter Try.func45, Try.ntmps45
    go_wp2_with fail
    go_ret
    exact ⟨rfl, HB.out⟩

theorem HasB.belowed {W : World} {B : Nat} {w w' : World} {b : Nat} {e : TypeId} {L : List Bool} {F : List Ent} (h : HasB W B w b e L F) (hb : Below w.heap.size w w') : HasB W B w' b e L F := by
  obtain ⟨v, h⟩ := h
  exact ⟨v, Holds.belowed h hb⟩
theorem HasB.cell2 {W : World} {B : Nat} {w : World} {b c : Nat} {e t : TypeId} {L : List Bool} {F : List Ent} {cs : List Value} (h : HasB W B w b e L (.st c cs t :: F)) (k : Nat) {v : Value} (hv : cs[k]? = some v) : w.cell? ⟨c, k, none⟩ = some v := by
  obtain ⟨_, h⟩ := h
  exact h.up2.cell k hv
theorem HasB.cell3 {W : World} {B : Nat} {w : World} {b c : Nat} {e t : TypeId} {L : List Bool} {F : List Ent} {x : Ent} {cs : List Value} (h : HasB W B w b e L (x :: .st c cs t :: F)) (k : Nat) {v : Value} (hv : cs[k]? = some v) : w.cell? ⟨c, k, none⟩ = some v := by
  obtain ⟨_, h⟩ := h
  exact h.up3.cell k hv
theorem HasB.drew {W : World} {B : Nat} {w : World} {b : Nat} {e : TypeId} {L : List Bool} {F : List Ent} (h : HasB W B w b e L F) : HasB W B w.drew b e L F := by
  obtain ⟨v, h⟩ := h
  exact ⟨v, h.drew⟩

set_option maxHeartbeats 1000000 in
theorem erput_yes (W w : World) (b1 : Nat) (t : TypeId) (L : List Bool) (F : List Ent) (bs e : Enty) (hw : HasB W W.heap.size w b1 t L F) (hL : L.length + 1000 ≤ 1000000000) (hfe : EFrm e) (hid : bs.id = e.id) (hkd : bs.kind = e.kind) :
    Calls Try.prog 22 #[.pointer (some ⟨b1, 0, none⟩), .agg #[.int .i64 bs.id, .int .i64 bs.kind, .int .i64 bs.x, .int .i64 bs.y, .int .i64 bs.vx, .int .i64 bs.vy, .int .i64 bs.hp, .int .i64 bs.wt], .agg #[.int .i64 e.id, .int .i64 e.kind, .int .i64 e.x, .int .i64 e.y, .int .i64 e.vx, .int .i64 e.vy, .int .i64 e.hp, .int .i64 e.wt]] w fun e' w' => e' = .returned (.bool true) ∧ HasB W W.heap.size w' b1 t (L ++ putB bs e) F := by
  obtain ⟨v0, hH⟩ := hw
  have h1 := hH.alloc [.int .i64 bs.id, .int .i64 bs.kind, .int .i64 bs.x, .int .i64 bs.y, .int .i64 bs.vx, .int .i64 bs.vy, .int .i64 bs.hp, .int .i64 bs.wt] 29
  have h2 := h1.alloc [.int .i64 e.id, .int .i64 e.kind, .int .i64 e.x, .int .i64 e.y, .int .i64 e.vx, .int .i64 e.vy, .int .i64 e.hp, .int .i64 e.wt] 29
  have hs1 : (w.alloc (.cells #[.int .i64 bs.id, .int .i64 bs.kind, .int .i64 bs.x, .int .i64 bs.y, .int .i64 bs.vx, .int .i64 bs.vy, .int .i64 bs.hp, .int .i64 bs.wt] 29)).heap.size = w.heap.size + 1 := by simp
  rw [hs1] at h2
  have HX := Lib.hid h2
  have hf : ∀ w', Calls Try.prog 15 #[.agg #[.int .i64 e.id, .int .i64 e.kind, .int .i64 e.x, .int .i64 e.y, .int .i64 e.vx, .int .i64 e.vy, .int .i64 e.hp, .int .i64 e.wt]] w' fun e' w'' => e' = .returned (.bool true) ∧ Below w'.heap.size w' w'' := fun w' => by
    have := erformed w' e
    rw [decide_eq_true hfe] at this
    exact this
  have HF := Lib.hid hf
  have ti : (bs.id != e.id) = false := by rw [hid]; simp
  have tk : (bs.kind != e.kind) = false := by rw [hkd]; simp
  clear hH h1 h2 hs1 hf hid hkd
  go_enter Try.func22, Try.ntmps22
  go_wp2_with fail
  refine (HF.out _).mono ?_
  rintro e' w3 ⟨rfl, h3⟩
  have h4 := Holds.belowed HX.out h3
  have d0 := h4.cell 0 rfl
  have d1 := h4.cell 1 rfl
  have c0 := h4.up1.cell 0 rfl
  have c1 := h4.up1.cell 1 rfl
  have H6 : Hid (HasB W W.heap.size w3 b1 t L (.st w.heap.size [.int .i64 bs.id, .int .i64 bs.kind, .int .i64 bs.x, .int .i64 bs.y, .int .i64 bs.vx, .int .i64 bs.vy, .int .i64 bs.hp, .int .i64 bs.wt] 29 :: .st (w.heap.size + 1) [.int .i64 e.id, .int .i64 e.kind, .int .i64 e.x, .int .i64 e.y, .int .i64 e.vx, .int .i64 e.vy, .int .i64 e.hp, .int .i64 e.wt] 29 :: F)) := ⟨v0, h4.up1.up3.up3⟩
  clear h4 h3 HF HX hfe
  go_wp2_with fail
  clear c0 c1 d0 d1 ti tk
  go_loopw [7] (fun i wr => ∃ k : Nat, k ≤ 6 ∧ i = .int .i64 k ∧ HasB W W.heap.size wr b1 t (L ++ (List.range k).flatMap (maskB bs e)) (.st w.heap.size [.int .i64 bs.id, .int .i64 bs.kind, .int .i64 bs.x, .int .i64 bs.y, .int .i64 bs.vx, .int .i64 bs.vy, .int .i64 bs.hp, .int .i64 bs.wt] 29 :: .st (w.heap.size + 1) [.int .i64 e.id, .int .i64 e.kind, .int .i64 e.x, .int .i64 e.y, .int .i64 e.vx, .int .i64 e.vy, .int .i64 e.hp, .int .i64 e.wt] 29 :: F))
    (fun i _ => 6 - (intOf i).toNat)
  case atStart => exact ⟨0, by decide, rfl, by simpa using H6.out⟩
  case round =>
    obtain ⟨k, hk, rfl, hH⟩ := hrel
    clear H6
    have hml := mask_len bs e k
    by_cases hkn : k < 6
    · have HTS := Lib.hid (succ_len k (show k < maxLen by unfold maxLen; omega))
      have k0 : (0 : Int) ≤ (k : Int) := by omega
      have k1 : (k : Int) < 6 := by omega
      have H4 := Lib.hid hH
      have HC1 : Hid (∀ d os, Calls Try.prog 45 #[.agg #[.int .i64 bs.id, .int .i64 bs.kind, .int .i64 bs.x, .int .i64 bs.y, .int .i64 bs.vx, .int .i64 bs.vy, .int .i64 bs.hp, .int .i64 bs.wt], .int .i64 (k : Int)] (grow (redrawn wr d) os) fun e' w'' => e' = .returned (.int .i64 (fi bs k)) ∧ ∃ p : Regrown, w'' = grow (redrawn wr p.d) p.os) := fun d os => Calls.regrown_of (rfield _ bs k hkn)
      have HC2 : Hid (∀ d os, Calls Try.prog 45 #[.agg #[.int .i64 e.id, .int .i64 e.kind, .int .i64 e.x, .int .i64 e.y, .int .i64 e.vx, .int .i64 e.vy, .int .i64 e.hp, .int .i64 e.wt], .int .i64 (k : Int)] (grow (redrawn wr d) os) fun e' w'' => e' = .returned (.int .i64 (fi e k)) ∧ ∃ p : Regrown, w'' = grow (redrawn wr p.d) p.os) := fun d os => Calls.regrown_of (rfield _ e k hkn)
      have E0 := cell_regrown (HasB.cell2 H4.out 0 rfl)
      have G0 := cell_regrown (HasB.cell3 H4.out 0 rfl)
      have E1 := cell_regrown (HasB.cell2 H4.out 1 rfl)
      have G1 := cell_regrown (HasB.cell3 H4.out 1 rfl)
      have E2 := cell_regrown (HasB.cell2 H4.out 2 rfl)
      have G2 := cell_regrown (HasB.cell3 H4.out 2 rfl)
      have E3 := cell_regrown (HasB.cell2 H4.out 3 rfl)
      have G3 := cell_regrown (HasB.cell3 H4.out 3 rfl)
      have E4 := cell_regrown (HasB.cell2 H4.out 4 rfl)
      have G4 := cell_regrown (HasB.cell3 H4.out 4 rfl)
      have E5 := cell_regrown (HasB.cell2 H4.out 5 rfl)
      have G5 := cell_regrown (HasB.cell3 H4.out 5 rfl)
      have E6 := cell_regrown (HasB.cell2 H4.out 6 rfl)
      have G6 := cell_regrown (HasB.cell3 H4.out 6 rfl)
      have E7 := cell_regrown (HasB.cell2 H4.out 7 rfl)
      have G7 := cell_regrown (HasB.cell3 H4.out 7 rfl)
      clear hH
      by_cases hq : fi bs k = fi e k
      · have tq : (fi bs k != fi e k) = false := by rw [hq]; simp
        have HQ := Lib.hid hq
        clear hq
        go_wp2_with fail
        refine wp_region_quiet_below (by kernel_rfl) (by kernel_rfl) ?_
        repeat (go_big_quiet_step (first | (go_at_call 45; with_reducible exact HC1.out _ _) | (go_at_call 45; with_reducible exact HC2.out _ _)))
        refine wpQuiet_nil ?_
        intro _ hw'
        obtain ⟨⟨dq, osq⟩, hw''⟩ := hw'
        subst hw''
        have hbx := below_regrown wr dq osq
        clear E0 E1 E2 E3 E4 E5 E6 E7 G0 G1 G2 G3 G4 G5 G6 G7
        generalize grow (redrawn wr dq) osq = w4 at *
        have h4 := HasB.belowed H4.out hbx
        have hp := rput W W.heap.size w4 b1 t (L ++ (List.range k).flatMap (maskB bs e)) _ 0 1 h4 (by decide) (by decide) (by decide) (by decide) (by rw [List.length_append]; omega)
        have HP := Lib.hid hp
        clear hp h4 hbx
        go_wp2_with fail
        refine HP.out.mono ?_
        rintro e' w5 ⟨rfl, h5⟩
        have H5 := Lib.hid h5
        clear h5 HP
        go_wp2_with fail
        try rw [HTS.out]
        refine ⟨⟨k + 1, by omega, cast_succ k, ?_⟩, succ_less hkn⟩
        rw [range_flat (maskB bs e) k, ← List.append_assoc]
        have h6 := H5.out
        rw [show maskB bs e k = bitsOf 0 1 by unfold maskB; rw [if_pos HQ.out]]
        exact h6
      · have tq : (fi bs k != fi e k) = true := by simpa using hq
        have HQ := Lib.hid hq
        clear hq
        go_wp2_with fail
        refine wp_region_quiet_below (by kernel_rfl) (by kernel_rfl) ?_
        repeat (go_big_quiet_step (first | (go_at_call 45; with_reducible exact HC1.out _ _) | (go_at_call 45; with_reducible exact HC2.out _ _)))
        refine wpQuiet_nil ?_
        intro _ hw'
        obtain ⟨⟨dq, osq⟩, hw''⟩ := hw'
        subst hw''
        have hbx := below_regrown wr dq osq
        clear E0 E1 E2 E3 E4 E5 E6 E7 G0 G1 G2 G3 G4 G5 G6 G7
        generalize grow (redrawn wr dq) osq = w4 at *
        have h4 := HasB.belowed H4.out hbx
        have hp := rput W W.heap.size w4 b1 t (L ++ (List.range k).flatMap (maskB bs e)) _ 1 1 h4 (by decide) (by decide) (by decide) (by decide) (by rw [List.length_append]; omega)
        have HP := Lib.hid hp
        clear hp h4 hbx
        go_wp2_with fail
        refine HP.out.mono ?_
        rintro e' w5 ⟨rfl, h5⟩
        have H5 := Lib.hid h5
        clear h5 HP
        go_wp2_with fail
        try rw [HTS.out]
        refine ⟨⟨k + 1, by omega, cast_succ k, ?_⟩, succ_less hkn⟩
        rw [range_flat (maskB bs e) k, ← List.append_assoc]
        have h6 := H5.out
        rw [show maskB bs e k = bitsOf 1 1 by unfold maskB; rw [if_neg HQ.out]]
        exact h6
    · obtain rfl : k = 6 := by omega
      have H7 := Lib.hid hH
      clear hH
      rw [show ((6 : Nat) : Int) = 6 from rfl]
      go_wp2_with fail
      go_loopw [9] (fun i wr => ∃ k : Nat, k ≤ 6 ∧ i = .int .i64 k ∧ HasB W W.heap.size wr b1 t ((L ++ (List.range 6).flatMap (maskB bs e)) ++ (List.range k).flatMap (diffB bs e)) (.st w.heap.size [.int .i64 bs.id, .int .i64 bs.kind, .int .i64 bs.x, .int .i64 bs.y, .int .i64 bs.vx, .int .i64 bs.vy, .int .i64 bs.hp, .int .i64 bs.wt] 29 :: .st (w.heap.size + 1) [.int .i64 e.id, .int .i64 e.kind, .int .i64 e.x, .int .i64 e.y, .int .i64 e.vx, .int .i64 e.vy, .int .i64 e.hp, .int .i64 e.wt] 29 :: F))
        (fun i _ => 6 - (intOf i).toNat)
      case atStart => exact ⟨0, by decide, rfl, by simpa using H7.out⟩
      case round =>
        obtain ⟨k, hk, rfl, hH⟩ := hrel
        clear H7
        have hdl := diff_len bs e k
        by_cases hkn : k < 6
        · have HTS := Lib.hid (succ_len k (show k < maxLen by unfold maxLen; omega))
          have k0 : (0 : Int) ≤ (k : Int) := by omega
          have k1 : (k : Int) < 6 := by omega
          have H4 := Lib.hid hH
          have HC1 : Hid (∀ d os, Calls Try.prog 45 #[.agg #[.int .i64 bs.id, .int .i64 bs.kind, .int .i64 bs.x, .int .i64 bs.y, .int .i64 bs.vx, .int .i64 bs.vy, .int .i64 bs.hp, .int .i64 bs.wt], .int .i64 (k : Int)] (grow (redrawn wr d) os) fun e' w'' => e' = .returned (.int .i64 (fi bs k)) ∧ ∃ p : Regrown, w'' = grow (redrawn wr p.d) p.os) := fun d os => Calls.regrown_of (rfield _ bs k hkn)
          have HC2 : Hid (∀ d os, Calls Try.prog 45 #[.agg #[.int .i64 e.id, .int .i64 e.kind, .int .i64 e.x, .int .i64 e.y, .int .i64 e.vx, .int .i64 e.vy, .int .i64 e.hp, .int .i64 e.wt], .int .i64 (k : Int)] (grow (redrawn wr d) os) fun e' w'' => e' = .returned (.int .i64 (fi e k)) ∧ ∃ p : Regrown, w'' = grow (redrawn wr p.d) p.os) := fun d os => Calls.regrown_of (rfield _ e k hkn)
          have E0 := cell_regrown (HasB.cell2 H4.out 0 rfl)
          have G0 := cell_regrown (HasB.cell3 H4.out 0 rfl)
          have E1 := cell_regrown (HasB.cell2 H4.out 1 rfl)
          have G1 := cell_regrown (HasB.cell3 H4.out 1 rfl)
          have E2 := cell_regrown (HasB.cell2 H4.out 2 rfl)
          have G2 := cell_regrown (HasB.cell3 H4.out 2 rfl)
          have E3 := cell_regrown (HasB.cell2 H4.out 3 rfl)
          have G3 := cell_regrown (HasB.cell3 H4.out 3 rfl)
          have E4 := cell_regrown (HasB.cell2 H4.out 4 rfl)
          have G4 := cell_regrown (HasB.cell3 H4.out 4 rfl)
          have E5 := cell_regrown (HasB.cell2 H4.out 5 rfl)
          have G5 := cell_regrown (HasB.cell3 H4.out 5 rfl)
          have E6 := cell_regrown (HasB.cell2 H4.out 6 rfl)
          have G6 := cell_regrown (HasB.cell3 H4.out 6 rfl)
          have E7 := cell_regrown (HasB.cell2 H4.out 7 rfl)
          have G7 := cell_regrown (HasB.cell3 H4.out 7 rfl)
          clear hH
          by_cases hq : fi bs k = fi e k
          · have tq : (fi bs k != fi e k) = false := by rw [hq]; simp
            have HQ := Lib.hid hq
            clear hq
            go_wp2_with fail
            refine wp_region_quiet_below (by kernel_rfl) (by kernel_rfl) ?_
            repeat (go_big_quiet_step (first | (go_at_call 45; with_reducible exact HC1.out _ _) | (go_at_call 45; with_reducible exact HC2.out _ _)))
            refine wpQuiet_nil ?_
            intro _ hw'
            obtain ⟨⟨dq, osq⟩, hw''⟩ := hw'
            subst hw''
            have hbx := below_regrown wr dq osq
            clear E0 E1 E2 E3 E4 E5 E6 E7 G0 G1 G2 G3 G4 G5 G6 G7
            generalize grow (redrawn wr dq) osq = w4 at *
            have h4 := HasB.belowed H4.out hbx
            have H5 := Lib.hid h4
            clear h4 hbx
            go_wp2_with fail
            try rw [HTS.out]
            refine ⟨⟨k + 1, by omega, cast_succ k, ?_⟩, succ_less hkn⟩
            rw [range_flat (diffB bs e) k, show diffB bs e k = [] by unfold diffB; rw [if_pos HQ.out], List.append_nil]
            exact H5.out
          · have tq : (fi bs k != fi e k) = true := by simpa using hq
            have HQ := Lib.hid hq
            clear hq
            go_wp2_with fail
            refine wp_region_quiet_below (by kernel_rfl) (by kernel_rfl) ?_
            repeat (go_big_quiet_step (first | (go_at_call 45; with_reducible exact HC1.out _ _) | (go_at_call 45; with_reducible exact HC2.out _ _)))
            refine wpQuiet_nil ?_
            intro _ hw'
            obtain ⟨⟨dq, osq⟩, hw''⟩ := hw'
            subst hw''
            have hbx := below_regrown wr dq osq
            clear E0 E1 E2 E3 E4 E5 E6 E7 G0 G1 G2 G3 G4 G5 G6 G7
            generalize grow (redrawn wr dq) osq = w4 at *
            have h4 := HasB.belowed H4.out hbx
            have H5 := Lib.hid (HasB.drew h4)
            have hf1 := fun w' => rfield w' bs k hkn
            have hf2 := fun w' => rfield w' e k hkn
            have HF1 := Lib.hid hf1
            have HF2 := Lib.hid hf2
            have hwx := w64r (fi e k - fi bs k)
            have hsm : ∀ w', HasB W W.heap.size w' b1 t ((L ++ (List.range 6).flatMap (maskB bs e)) ++ (List.range k).flatMap (diffB bs e)) (.st w.heap.size [.int .i64 bs.id, .int .i64 bs.kind, .int .i64 bs.x, .int .i64 bs.y, .int .i64 bs.vx, .int .i64 bs.vy, .int .i64 bs.hp, .int .i64 bs.wt] 29 :: .st (w.heap.size + 1) [.int .i64 e.id, .int .i64 e.kind, .int .i64 e.x, .int .i64 e.y, .int .i64 e.vx, .int .i64 e.vy, .int .i64 e.hp, .int .i64 e.wt] 29 :: F) → Calls Try.prog 47 #[.pointer (some ⟨b1, 0, none⟩), .int .i64 (IntKind.i64.wrap (fi e k - fi bs k))] w' fun e' w'' => e' = .returned (.tuple #[]) ∧ HasB W W.heap.size w'' b1 t ((L ++ (List.range 6).flatMap (maskB bs e)) ++ (List.range k).flatMap (diffB bs e) ++ smallB (zig (wrap64 (fi e k - fi bs k))).toNat) (.st w.heap.size [.int .i64 bs.id, .int .i64 bs.kind, .int .i64 bs.x, .int .i64 bs.y, .int .i64 bs.vx, .int .i64 bs.vy, .int .i64 bs.hp, .int .i64 bs.wt] 29 :: .st (w.heap.size + 1) [.int .i64 e.id, .int .i64 e.kind, .int .i64 e.x, .int .i64 e.y, .int .i64 e.vx, .int .i64 e.vy, .int .i64 e.hp, .int .i64 e.wt] 29 :: F) := fun w' h => by
              rw [wrap_i64]
              exact rsmall W W.heap.size w' b1 t _ _ (wrap64 (fi e k - fi bs k)) h hwx.1 hwx.2 (by rw [List.length_append, List.length_append]; omega)
            have HS := Lib.hid hsm
            clear h4 hbx hf1 hf2 hsm hwx
            go_wp2_with fail
            go_region_held3 (fun w' => w'.cell? ⟨w.heap.size, 0, none⟩ = some (.int .i64 bs.id) ∧ w'.cell? ⟨w.heap.size, 1, none⟩ = some (.int .i64 bs.kind) ∧ w'.cell? ⟨w.heap.size, 2, none⟩ = some (.int .i64 bs.x) ∧ w'.cell? ⟨w.heap.size, 3, none⟩ = some (.int .i64 bs.y) ∧ w'.cell? ⟨w.heap.size, 4, none⟩ = some (.int .i64 bs.vx) ∧ w'.cell? ⟨w.heap.size, 5, none⟩ = some (.int .i64 bs.vy) ∧ w'.cell? ⟨w.heap.size, 6, none⟩ = some (.int .i64 bs.hp) ∧ w'.cell? ⟨w.heap.size, 7, none⟩ = some (.int .i64 bs.wt) ∧ w'.cell? ⟨w.heap.size + 1, 0, none⟩ = some (.int .i64 e.id) ∧ w'.cell? ⟨w.heap.size + 1, 1, none⟩ = some (.int .i64 e.kind) ∧ w'.cell? ⟨w.heap.size + 1, 2, none⟩ = some (.int .i64 e.x) ∧ w'.cell? ⟨w.heap.size + 1, 3, none⟩ = some (.int .i64 e.y) ∧ w'.cell? ⟨w.heap.size + 1, 4, none⟩ = some (.int .i64 e.vx) ∧ w'.cell? ⟨w.heap.size + 1, 5, none⟩ = some (.int .i64 e.vy) ∧ w'.cell? ⟨w.heap.size + 1, 6, none⟩ = some (.int .i64 e.hp) ∧ w'.cell? ⟨w.heap.size + 1, 7, none⟩ = some (.int .i64 e.wt))
              (exact ⟨HasB.cell2 H5.out 0 rfl, HasB.cell2 H5.out 1 rfl, HasB.cell2 H5.out 2 rfl, HasB.cell2 H5.out 3 rfl, HasB.cell2 H5.out 4 rfl, HasB.cell2 H5.out 5 rfl, HasB.cell2 H5.out 6 rfl, HasB.cell2 H5.out 7 rfl, HasB.cell3 H5.out 0 rfl, HasB.cell3 H5.out 1 rfl, HasB.cell3 H5.out 2 rfl, HasB.cell3 H5.out 3 rfl, HasB.cell3 H5.out 4 rfl, HasB.cell3 H5.out 5 rfl, HasB.cell3 H5.out 6 rfl, HasB.cell3 H5.out 7 rfl⟩)
              (first | (go_at_call 45; with_reducible refine (HF1.out _).mono ?_; rintro e' wn ⟨rfl, hx⟩; have H5 := Lib.hid (HasB.belowed H5.out hx); clear hx) | (go_at_call 45; with_reducible refine (HF2.out _).mono ?_; rintro e' wn ⟨rfl, hx⟩; have H5 := Lib.hid (HasB.belowed H5.out hx); clear hx) | (go_at_call 47; with_reducible refine (HS.out _ H5.out).mono ?_; rintro e' wn ⟨rfl, hx⟩; have H5 := Lib.hid hx; clear hx))
            all_goals
              go_wp2_with fail
              try rw [HTS.out]
              refine ⟨⟨k + 1, by omega, cast_succ k, ?_⟩, succ_less hkn⟩
              rw [range_flat (diffB bs e) k, ← List.append_assoc, show diffB bs e k = smallB (zig (wrap64 (fi e k - fi bs k))).toNat by unfold diffB; rw [if_neg HQ.out]]
              exact H5.out
        · obtain rfl : k = 6 := by omega
          obtain ⟨v9, h9⟩ := hH
          have H9 := Lib.hid h9
          clear h9
          go_wp2_with fail
          go_ret
          refine ⟨rfl, v9, ?_⟩
          have h10 := H9.out.up3.up3.tail.tail
          rw [show L ++ putB bs e = (L ++ (List.range 6).flatMap (maskB bs e)) ++ (List.range 6).flatMap (diffB bs e) by unfold putB; rw [List.append_assoc]]
          exact h10

set_option maxHeartbeats 1000000 in
theorem erput_no (W w : World) (b1 : Nat) (t : TypeId) (L : List Bool) (F : List Ent) (bs e : Enty) (hw : HasB W W.heap.size w b1 t L F) (hno : ¬ (EFrm e ∧ bs.id = e.id ∧ bs.kind = e.kind)) :
    Calls Try.prog 22 #[.pointer (some ⟨b1, 0, none⟩), .agg #[.int .i64 bs.id, .int .i64 bs.kind, .int .i64 bs.x, .int .i64 bs.y, .int .i64 bs.vx, .int .i64 bs.vy, .int .i64 bs.hp, .int .i64 bs.wt], .agg #[.int .i64 e.id, .int .i64 e.kind, .int .i64 e.x, .int .i64 e.y, .int .i64 e.vx, .int .i64 e.vy, .int .i64 e.hp, .int .i64 e.wt]] w fun e' w' => e' = .returned (.bool false) ∧ HasB W W.heap.size w' b1 t L F := by
  obtain ⟨v0, hH⟩ := hw
  have h1 := hH.alloc [.int .i64 bs.id, .int .i64 bs.kind, .int .i64 bs.x, .int .i64 bs.y, .int .i64 bs.vx, .int .i64 bs.vy, .int .i64 bs.hp, .int .i64 bs.wt] 29
  have h2 := h1.alloc [.int .i64 e.id, .int .i64 e.kind, .int .i64 e.x, .int .i64 e.y, .int .i64 e.vx, .int .i64 e.vy, .int .i64 e.hp, .int .i64 e.wt] 29
  have hs1 : (w.alloc (.cells #[.int .i64 bs.id, .int .i64 bs.kind, .int .i64 bs.x, .int .i64 bs.y, .int .i64 bs.vx, .int .i64 bs.vy, .int .i64 bs.hp, .int .i64 bs.wt] 29)).heap.size = w.heap.size + 1 := by simp
  rw [hs1] at h2
  have HX := Lib.hid h2
  by_cases hfe : EFrm e
  · have hf : ∀ w', Calls Try.prog 15 #[.agg #[.int .i64 e.id, .int .i64 e.kind, .int .i64 e.x, .int .i64 e.y, .int .i64 e.vx, .int .i64 e.vy, .int .i64 e.hp, .int .i64 e.wt]] w' fun e' w'' => e' = .returned (.bool true) ∧ Below w'.heap.size w' w'' := fun w' => by
      have := erformed w' e
      rw [decide_eq_true hfe] at this
      exact this
    have HF := Lib.hid hf
    by_cases hid : bs.id = e.id
    · have hkd : bs.kind ≠ e.kind := fun h => hno ⟨hfe, hid, h⟩
      have ti : (bs.id != e.id) = false := by rw [hid]; simp
      have tk : (bs.kind != e.kind) = true := by simpa using hkd
      clear hH h1 h2 hs1 hf hid hkd hno hfe
      go_enter Try.func22, Try.ntmps22
      go_wp2_with fail
      refine (HF.out _).mono ?_
      rintro e' w3 ⟨rfl, h3⟩
      have h4 := Holds.belowed HX.out h3
      have e0 := h4.cell 0 rfl
      have e1 := h4.cell 1 rfl
      have z0 := h4.up1.cell 0 rfl
      have z1 := h4.up1.cell 1 rfl
      have H4 := Lib.hid h4
      clear h4 h3
      go_wp2_with fail
      go_ret
      exact ⟨rfl, v0, H4.out.tail.tail⟩
    · have ti : (bs.id != e.id) = true := by simpa using hid
      clear hH h1 h2 hs1 hf hid hno hfe
      go_enter Try.func22, Try.ntmps22
      go_wp2_with fail
      refine (HF.out _).mono ?_
      rintro e' w3 ⟨rfl, h3⟩
      have h4 := Holds.belowed HX.out h3
      have e0 := h4.cell 0 rfl
      have z0 := h4.up1.cell 0 rfl
      have H4 := Lib.hid h4
      clear h4 h3
      go_wp2_with fail
      go_ret
      exact ⟨rfl, v0, H4.out.tail.tail⟩
  · have hf : ∀ w', Calls Try.prog 15 #[.agg #[.int .i64 e.id, .int .i64 e.kind, .int .i64 e.x, .int .i64 e.y, .int .i64 e.vx, .int .i64 e.vy, .int .i64 e.hp, .int .i64 e.wt]] w' fun e' w'' => e' = .returned (.bool false) ∧ Below w'.heap.size w' w'' := fun w' => by
      have := erformed w' e
      rw [decide_eq_false hfe] at this
      exact this
    have HF := Lib.hid hf
    clear hH h1 h2 hs1 hf hno hfe
    go_enter Try.func22, Try.ntmps22
    go_wp2_with fail
    refine (HF.out _).mono ?_
    rintro e' w3 ⟨rfl, h3⟩
    have h4 := Holds.belowed HX.out h3
    have H4 := Lib.hid h4
    clear h4 h3
    go_wp2_with fail
    go_ret
    exact ⟨rfl, v0, H4.out.tail.tail⟩

theorem erput (W w : World) (b1 : Nat) (t : TypeId) (L : List Bool) (F : List Ent) (bs e : Enty) (hw : HasB W W.heap.size w b1 t L F) (hL : L.length + 1000 ≤ 1000000000) :
    Calls Try.prog 22 #[.pointer (some ⟨b1, 0, none⟩), .agg #[.int .i64 bs.id, .int .i64 bs.kind, .int .i64 bs.x, .int .i64 bs.y, .int .i64 bs.vx, .int .i64 bs.vy, .int .i64 bs.hp, .int .i64 bs.wt], .agg #[.int .i64 e.id, .int .i64 e.kind, .int .i64 e.x, .int .i64 e.y, .int .i64 e.vx, .int .i64 e.vy, .int .i64 e.hp, .int .i64 e.wt]] w fun e' w' => e' = .returned (.bool (okB bs e)) ∧ HasB W W.heap.size w' b1 t (L ++ if okB bs e = true then putB bs e else []) F := by
  by_cases h : EFrm e ∧ bs.id = e.id ∧ bs.kind = e.kind
  · have h1 : okB bs e = true := decide_eq_true h
    rw [h1, if_pos rfl]
    exact erput_yes W w b1 t L F bs e hw hL h.1 h.2.1 h.2.2
  · have h1 : okB bs e = false := decide_eq_false h
    rw [h1, if_neg (by decide), List.append_nil]
    exact erput_no W w b1 t L F bs e hw h

end Go.Proofs.Ytfcncmhcmbghpaa.Ents
