/- The reference's reader of bits: Take, whatever its state. -/
import Derived.Test.YtpnnalkihcemhaaRR
set_option linter.unusedVariables false
set_option linter.unusedSimpArgs false
namespace Go.Proofs.Ytpnnalkihcemhaa.Str
open Go.Sort Go.RowKit Go.Proofs.Ytpnnalkihcemhaa.Mem Go.Proofs.Ytpnnalkihcemhaa.Bits Go.Proofs.Ytpnnalkihcemhaa.Wr Go.Proofs.Ytpnnalkihcemhaa.Num Go.Proofs.Ytpnnalkihcemhaa.Step Go.Proofs.YtpnnalkihcemhaaW.PrintWords

theorem pow_le64 {k : Nat} (h : k ≤ 64) : (2 : Int) ^ k ≤ 18446744073709551616 := by
  have : (2 : Int) ^ k ≤ 2 ^ 64 := by exact_mod_cast Nat.pow_le_pow_right (by decide) h
  simpa using this
theorem rr_sum {L : List Bool} {k m : Nat} {o : Int} (hk : k < m) (hm : m ≤ 64) (ho : o = 2 ^ k) : 0 ≤ val (L.take k) ∧ IntKind.u64.wrap (val (L.take k) + o) = val (L.take k) + o ∧ (val (L.take k) + o) % 18446744073709551616 = val (L.take k) + o := by
  have h1 := val_take_range L k
  have h2 : (2 : Int) ^ (k + 1) ≤ 18446744073709551616 := pow_le64 (by omega)
  rw [Int.pow_succ] at h2
  rw [wrap_u64, ho]
  omega
theorem rr_one {k m : Nat} {o : Int} (hk : k < m) (hm : m ≤ 64) (ho : o = 2 ^ k) : ∃ o' : Int, IntKind.u64.wrap (o * 2) = o' ∧ (o * 2) % 18446744073709551616 = o' ∧ (k + 1 < 64 → o' = 2 ^ (k + 1)) := by
  refine ⟨IntKind.u64.wrap (o * 2), rfl, by rw [wrap_u64], fun h => ?_⟩
  have h2 : (2 : Int) ^ (k + 1) < 18446744073709551616 := by
    have : (2 : Int) ^ (k + 1) ≤ 2 ^ 63 := by exact_mod_cast Nat.pow_le_pow_right (by decide) (show k + 1 ≤ 63 by omega)
    have e : (2 : Int) ^ 63 < 18446744073709551616 := by decide
    omega
  have h3 : (0 : Int) < 2 ^ (k + 1) := Int.pow_pos (by decide)
  rw [wrap_u64, ho, ← Int.pow_succ]
  omega
theorem rr_at {a k m n x : Nat} (hx : a + k = x) (hk : k < m) (h : a + m ≤ n) (hn : n ≤ 1000000000) : (0 : Int) ≤ (x : Int) ∧ (x : Int) < (n : Int) ∧ IntKind.i64.wrap ((x : Int) + 1) = (x : Int) + 1 ∧ wrap64 ((x : Int) + 1) = (x : Int) + 1 ∧ x < n := by
  rw [wrap_i64]; unfold wrap64; omega
theorem rr_len {a n : Nat} (h : a ≤ n) (hn : n ≤ 1000000000) : ∃ d : Nat, n - a = d ∧ IntKind.i64.wrap ((n : Int) - (a : Int)) = (d : Int) ∧ wrap64 ((n : Int) - (a : Int)) = (d : Int) ∧ (n : Int) - (a : Int) = (d : Int) ∧ IntKind.i64.wrap (d : Int) = (d : Int) := by
  refine ⟨n - a, rfl, ?_⟩
  rw [wrap_i64, wrap_i64]; unfold wrap64; omega
theorem lt_of_d {n a d m : Nat} (h : n - a = d) (h2 : d < m) (h3 : a ≤ n) : n < a + m := by omega
theorem le_of_d {n a d m : Nat} (h : n - a = d) (h2 : ¬ d < m) (h3 : a ≤ n) : a + m ≤ n := by omega
theorem nat_val (L : List Bool) (k : Nat) : ∃ z : Nat, val (L.take k) = (z : Int) ∧ z < 2 ^ k := by
  have h := val_take_range L k
  have h2 : ((2 ^ k : Nat) : Int) = 2 ^ k := by simp
  exact ⟨(val (L.take k)).toNat, by omega, by omega⟩
theorem bools_at {l : List Bool} {x : Nat} {t : Bool} (h : l[x]? = some t) : (bools l)[x]? = some (.bool t) := by simp [bools, h]

set_option maxHeartbeats 2000000 in
theorem rrtake (W : World) (B : Nat) (w : World) (b : Nat) (l : List Bool) (at_ : Nat) (fl : Bool) (F : List Ent) (m : Nat) (hw : HasRR W B w b l at_ fl F) (hat : at_ ≤ l.length) (hl : l.length ≤ 1000000000) (hm : m ≤ 64) :
    Calls Try.prog 54 #[.pointer (some ⟨b, 0, none⟩), .int .i64 (m : Int)] w fun e' w' => ∃ (x : Nat) (at' : Nat) (fl' : Bool), e' = .returned (.int .u64 (x : Int)) ∧ HasRR W B w' b l at' fl' F ∧ at' ≤ l.length ∧ x < 2 ^ m ∧
      ((fl' = false ∧ fl = false ∧ at' = at_ + m ∧ (x : Int) = val ((l.drop at_).take m)) ∨ (fl' = true ∧ x = 0 ∧ (fl = true ∨ l.length < at_ + m))) := by
  obtain ⟨v, hH⟩ := hw
  obtain ⟨A, c, rfl⟩ := hH.up1.slice
  have E0 := cell_regrown (hH.cell 0 rfl)
  have E1 := cell_regrown (hH.cell 1 rfl)
  have E2 := cell_regrown (hH.cell 2 rfl)
  have HH := Lib.hid hH
  have HM := Lib.hid hm
  have HA := Lib.hid (And.intro hat hl)
  obtain ⟨d, hd, x1, x2, x3, x4⟩ := rr_len hat hl
  have HD := Lib.hid hd
  have t0 : decide ((m : Int) < 0) = false := decide_eq_false (Int.not_lt.2 (Int.natCast_nonneg m))
  have t1 : decide ((64 : Int) < (m : Int)) = false := decide_eq_false (Int.not_lt.2 (Int.ofNat_le.2 hm))
  clear hH hat hl hd hm
  have fin : Hid (∀ w4, Below w.heap.size w w4 → (fl = true ∨ l.length < at_ + m) → ∃ (x : Nat) (at' : Nat) (fl' : Bool), Ending.returned (.int .u64 0) = .returned (.int .u64 (x : Int)) ∧ HasRR W B (w4.setCell ⟨b, 2, none⟩ (.bool true)) b l at' fl' F ∧ at' ≤ l.length ∧ x < 2 ^ m ∧
      ((fl' = false ∧ fl = false ∧ at' = at_ + m ∧ (x : Int) = val ((l.drop at_).take m)) ∨ (fl' = true ∧ x = 0 ∧ (fl = true ∨ l.length < at_ + m)))) := fun w4 hb hc =>
    ⟨0, at_, true, rfl, ⟨_, (Holds.belowed HH.out hb).set 2 (.bool true)⟩, HA.out.1, Nat.pow_pos (by decide), .inr ⟨rfl, rfl, hc⟩⟩
  cases fl with
  | true =>
    go_enter Try.func54, Try.ntmps54
    go_wp2_with fail
    refine wp_region_quiet_below (by kernel_rfl) (by kernel_rfl) ?_
    repeat (go_big_quiet_step (fail))
    refine wpQuiet_nil ?_
    intro _ hw'
    obtain ⟨⟨dq, osq⟩, hw''⟩ := hw'
    subst hw''
    have hbx := below_regrown w dq osq
    clear E0 E1 E2
    generalize grow (redrawn w dq) osq = w4 at *
    have f2 := (Holds.belowed HH.out hbx).frozen 2
    have c2 := (Holds.belowed HH.out hbx).cell 2 rfl
    go_wp2_with fail
    go_ret
    exact fin.out w4 hbx (by first | exact .inl rfl | exact .inl trivial)
  | false =>
    by_cases hbig : d < m
    · have t2 : decide ((d : Int) < (m : Int)) = true := decide_eq_true (Int.ofNat_lt.2 hbig)
      have HBG := Lib.hid hbig
      clear hbig
      go_enter Try.func54, Try.ntmps54
      go_wp2_with fail
      refine wp_region_quiet_below (by kernel_rfl) (by kernel_rfl) ?_
      repeat (go_big_quiet_step (fail))
      refine wpQuiet_nil ?_
      intro _ hw'
      obtain ⟨⟨dq, osq⟩, hw''⟩ := hw'
      subst hw''
      have hbx := below_regrown w dq osq
      clear E0 E1 E2
      generalize grow (redrawn w dq) osq = w4 at *
      have f2 := (Holds.belowed HH.out hbx).frozen 2
      have c2 := (Holds.belowed HH.out hbx).cell 2 rfl
      go_wp2_with fail
      go_ret
      exact fin.out w4 hbx (.inr (lt_of_d HD.out HBG.out HA.out.1))
    · have t2 : decide ((d : Int) < (m : Int)) = false := decide_eq_false (fun h => hbig (Int.ofNat_lt.1 h))
      have HBG := Lib.hid (le_of_d HD.out hbig HA.out.1)
      have tn : ¬ (d : Int) < (m : Int) := fun h => hbig (Int.ofNat_lt.1 h)
      have tn2 : decide (d < m) = false := decide_eq_false hbig
      clear fin
      go_enter Try.func54, Try.ntmps54
      go_wp2_with fail
      refine wp_region_quiet_below (by kernel_rfl) (by kernel_rfl) ?_
      repeat (go_big_quiet_step (fail))
      refine wpQuiet_nil ?_
      intro _ hw'
      obtain ⟨⟨dq, osq⟩, hw''⟩ := hw'
      subst hw''
      have hbx := below_regrown w dq osq
      clear E0 E1 E2
      generalize grow (redrawn w dq) osq = w4 at *
      have H4 := Lib.hid (Holds.belowed HH.out hbx)
      clear hbx HH
      go_wp2_with fail
      clear x1 x2 x3 x4 t0 t1 t2 tn tn2 hbig
      go_loopw [5, 6, 7] (fun x o i wr => ∃ (k : Nat) (oo : Int), k ≤ m ∧ i = .int .i64 k ∧ x = .int .u64 (val ((l.drop at_).take k)) ∧ o = .int .u64 oo ∧ (k < 64 → oo = 2 ^ k) ∧ Holds W B wr (.st b [.slice A l.length c, .int .i64 ((at_ + k : Nat) : Int), .bool false] 126 :: .rw (.slice A l.length c) 4 1 l.length (bools l) :: F))
        (fun _ _ i _ => m - (intOf i).toNat)
      case atStart => exact ⟨0, 1, Nat.zero_le _, rfl, rfl, rfl, fun _ => rfl, H4.out⟩
      case round =>
        obtain ⟨k, oo, hk, rfl, rfl, rfl, hoo, hH⟩ := hrel
        clear H4
        by_cases hkm : k < m
        · obtain ⟨y, hy⟩ : ∃ y, at_ + k = y := ⟨_, rfl⟩
          obtain ⟨i1, i2, i3, i4, i5⟩ := rr_at hy hkm HBG.out HA.out.2
          rw [hy] at hH
          obtain ⟨k0, k1, k2, _⟩ := loop_facts hkm (Nat.le_trans HM.out (by decide))
          obtain ⟨t, ht⟩ : ∃ t, l[y]? = some t := ⟨_, List.getElem?_eq_getElem i5⟩
          obtain ⟨g, cp, he, _⟩ := hH.up1.row (Nat.lt_of_le_of_lt (Nat.zero_le _) i5)
          simp only [Value.slice.injEq] at he
          obtain ⟨rfl, _, rfl⟩ := he
          have E0 := cell_regrown (hH.cell 0 rfl)
          have E1 := cell_regrown (hH.cell 1 rfl)
          have E3 := cell_regrown ((hH.up1.rcell y (by rw [Nat.mul_one]; exact i5)).trans (bools_at ht))
          have hst := val_step (l.drop at_) k t (by rw [List.getElem?_drop, hy]; exact ht)
          obtain ⟨s0, s1, s2⟩ := rr_sum (L := l.drop at_) hkm HM.out (hoo (Nat.lt_of_lt_of_le hkm HM.out))
          obtain ⟨o', p1, p2, p3⟩ := rr_one hkm HM.out (hoo (Nat.lt_of_lt_of_le hkm HM.out))
          have HST := Lib.hid hst
          have HOO := Lib.hid (hoo (Nat.lt_of_lt_of_le hkm HM.out))
          have HP3 := Lib.hid p3
          have HK2 := Lib.hid k2
          have HY := Lib.hid hy
          have HHH := Lib.hid hH
          obtain ⟨z, hz⟩ : ∃ z, val ((l.drop at_).take k) = z := ⟨_, rfl⟩
          rw [hz] at s1 s2 ⊢
          have HZ := Lib.hid hz
          clear hH ht hst hoo p3 hy k2 i5 s0 hz
          go_wp2_with fail
          refine wp_region_quiet_below (by kernel_rfl) (by kernel_rfl) ?_
          repeat (go_big_quiet_step (fail))
          refine wpQuiet_nil ?_
          intro _ hw'
          obtain ⟨⟨dq, osq⟩, hw''⟩ := hw'
          subst hw''
          have hbx := below_regrown wr dq osq
          clear E0 E1 E3
          generalize grow (redrawn wr dq) osq = w5 at *
          have h9 := Holds.belowed HHH.out hbx
          have c1 := h9.cell 1 rfl
          have f1 := h9.frozen 1
          have H9 := Lib.hid h9
          clear h9 hbx HHH
          have hfin : Holds W B (w5.setCell ⟨b, 1, none⟩ (.int .i64 ((y : Int) + 1))) (.st b [.slice (some ⟨g, 0, none⟩) l.length c, .int .i64 ((at_ + (k + 1) : Nat) : Int), .bool false] 126 :: .rw (.slice (some ⟨g, 0, none⟩) l.length c) 4 1 l.length (bools l) :: F) := by
            have h := H9.out.set 1 (.int .i64 ((y : Int) + 1))
            rw [← Nat.add_assoc, HY.out, ← cast_succ y]
            exact h
          have HFI := Lib.hid hfin
          clear hfin
          cases t with
          | true =>
            go_wp2_with fail
            clear i1 i2 i3 i4 s1 s2 p1 p2 c1 f1
            try rw [HK2.out]
            refine ⟨⟨k + 1, o', hkm, cast_succ k, ?_, rfl, HP3.out, HFI.out⟩, succ_less hkm⟩
            rw [HST.out, HZ.out, ← HOO.out]
            simp [b01]
          | false =>
            go_wp2_with fail
            clear i1 i2 i3 i4 s1 s2 p1 p2 c1 f1
            try rw [HK2.out]
            refine ⟨⟨k + 1, o', hkm, cast_succ k, ?_, rfl, HP3.out, HFI.out⟩, succ_less hkm⟩
            rw [HST.out, HZ.out]
            simp [b01]
        · obtain rfl : k = m := Nat.le_antisymm hk (Nat.le_of_not_lt hkm)
          have HHH := Lib.hid hH
          clear hH hoo
          obtain ⟨z, hz⟩ : ∃ z : Nat, val ((l.drop at_).take k) = (z : Int) ∧ z < 2 ^ k := nat_val (l.drop at_) k
          rw [hz.1]
          have HZ := Lib.hid hz
          clear hz
          go_wp2_with fail
          go_ret
          exact ⟨z, at_ + k, false, rfl, ⟨_, HHH.out⟩, HBG.out, HZ.out.2, .inl ⟨rfl, by first | rfl | trivial, rfl, HZ.out.1.symm⟩⟩

end Go.Proofs.Ytpnnalkihcemhaa.Str
