/- The reference's reader of bits: Small. -/
import Derived.Test.YtfcncmhcmbghpaaRSamS
import Derived.Deep.Cut
set_option linter.unusedVariables false
set_option linter.unusedSimpArgs false
namespace Go.Proofs.Ytfcncmhcmbghpaa.RRd
open Go.Sort Go.RowKit Go.Proofs.Ytfcncmhcmbghpaa.Mem Go.Proofs.Ytfcncmhcmbghpaa.Bits Go.Proofs.Ytfcncmhcmbghpaa.Wr Go.Proofs.Ytfcncmhcmbghpaa.Num Go.Proofs.Ytfcncmhcmbghpaa.Step Go.Proofs.YtfcncmhcmbghpaaW.PrintWords

def rGives (l : List Bool) (at_ : Nat) : Int × Nat × Bool :=
  match readS 0 (l.drop at_) with
  | some (u, k) => (unzig u, at_ + 8 * k, false)
  | none => (0, at_, true)
theorem rg_some {l : List Bool} {at_ u k : Nat} (h : readS 0 (l.drop at_) = some (u, k)) : rGives l at_ = (unzig u, at_ + 8 * k, false) := by unfold rGives; rw [h]
theorem rg_none' {l : List Bool} {at_ : Nat} (h : readS 0 (l.drop at_) = none) : rGives l at_ = (0, at_, true) := by unfold rGives; rw [h]
theorem rg_none {l : List Bool} {at_ : Nat} (h : refGo 10 (l.drop at_) = none) : rGives l at_ = (0, at_, true) := rg_none' (by rw [← refS_eq]; unfold refS; rw [h])
theorem rg_end {l : List Bool} {at_ U0 U k : Nat} (h : refGo 10 (l.drop at_) = some (U0, k)) (hU : U = U0 % 18446744073709551616) (ht : (l.drop at_).take (8 * k) = smallB U) : rGives l at_ = (unzig U, at_ + 8 * k, false) :=
  rg_some (by rw [← refS_eq]; unfold refS; rw [h]; simp only; rw [← hU, if_pos ht])
theorem rg_bad {l : List Bool} {at_ U0 U k : Nat} (h : refGo 10 (l.drop at_) = some (U0, k)) (hU : U = U0 % 18446744073709551616) (ht : ¬ (l.drop at_).take (8 * k) = smallB U) : rGives l at_ = (0, at_, true) :=
  rg_none' (by rw [← refS_eq]; unfold refS; rw [h]; simp only; rw [← hU, if_neg ht])

theorem uv_facts {acc i y : Nat} {o : Int} (ho : o = ((128 ^ i : Nat) : Int)) : ∃ P U : Nat, IntKind.u64.wrap ((y : Int) * o) = (P : Int) ∧ ((y : Int) * o) % 18446744073709551616 = (P : Int) ∧ IntKind.u64.wrap ((acc : Int) + (P : Int)) = (U : Int) ∧ ((acc : Int) + (P : Int)) % 18446744073709551616 = (U : Int) ∧ U = (acc + 128 ^ i * y) % 18446744073709551616 := by
  refine ⟨(y * 128 ^ i) % 18446744073709551616, (acc + 128 ^ i * y) % 18446744073709551616, ?_⟩
  have e : (y : Int) * o = ((y * 128 ^ i : Nat) : Int) := by rw [ho, Int.natCast_mul]
  have e2 : 128 ^ i * y = y * 128 ^ i := Nat.mul_comm _ _
  rw [e, e2]
  generalize y * 128 ^ i = z
  rw [wrap_u64, wrap_u64]
  refine ⟨by omega, by omega, by omega, by omega, rfl⟩
theorem one_facts {i : Nat} {o : Int} (ho : o = ((128 ^ i : Nat) : Int)) : ∃ o' : Int, IntKind.u64.wrap (o * 128) = o' ∧ (o * 128) % 18446744073709551616 = o' ∧ (i + 1 < 10 → o' = ((128 ^ (i + 1) : Nat) : Int)) := by
  refine ⟨IntKind.u64.wrap (o * 128), rfl, by rw [wrap_u64], fun h => ?_⟩
  have h2 : 128 ^ (i + 1) ≤ 128 ^ 9 := Nat.pow_le_pow_right (by decide) (by omega)
  have e9 : 128 ^ 9 = 9223372036854775808 := by decide
  rw [wrap_u64, ho, Nat.pow_succ] at *
  have : ((128 ^ i : Nat) : Int) * 128 = ((128 ^ i * 128 : Nat) : Int) := by rw [Int.natCast_mul]; rfl
  rw [this]
  omega
theorem acc_next {acc i y : Nat} (h : acc < 128 ^ i) (hy : y < 128) : acc + 128 ^ i * y < 128 ^ (i + 1) := by
  rw [Nat.pow_succ]
  have : 128 ^ i * y ≤ 128 ^ i * 127 := Nat.mul_le_mul_left _ (by omega)
  omega
theorem acc_small {acc i : Nat} (h : acc < 128 ^ i) (hi : i ≤ 9) : acc < 18446744073709551616 := by
  have h2 : 128 ^ i ≤ 128 ^ 9 := Nat.pow_le_pow_right (by decide) hi
  have e9 : 128 ^ 9 = 9223372036854775808 := by decide
  omega
theorem acc_keep {acc i y : Nat} (h : acc < 128 ^ i) (hi : i < 9) (hy : y < 128) : (acc + 128 ^ i * y) % 18446744073709551616 = acc + 128 ^ i * y :=
  Nat.mod_eq_of_lt (acc_small (acc_next h hy) (by omega))
theorem half_facts {U : Nat} (h : U < 18446744073709551616) : wrap64 ((U : Int) / 2) = ((U / 2 : Nat) : Int) ∧ wrap64 ((U : Int).tdiv 2) = ((U / 2 : Nat) : Int) ∧ IntKind.i64.wrap ((U : Int) / 2) = ((U / 2 : Nat) : Int) ∧ IntKind.u64.wrap ((U : Int) / 2) = ((U / 2 : Nat) : Int) ∧ ((U : Int) / 2) = ((U / 2 : Nat) : Int) ∧ (U : Int).tdiv 2 = ((U / 2 : Nat) : Int) ∧ wrap64 ((U / 2 : Nat) : Int) = ((U / 2 : Nat) : Int) ∧ IntKind.u64.wrap ((U / 2 : Nat) : Int) = ((U / 2 : Nat) : Int) := by
  have hd : (U : Int).tdiv 2 = (U : Int) / 2 := Int.tdiv_eq_ediv_of_nonneg (by omega)
  rw [hd, wrap_i64, wrap_u64, wrap_u64]
  unfold wrap64
  omega
theorem neg_facts {H : Nat} (h : H < 9223372036854775808) : wrap64 (-(H : Int)) = -(H : Int) ∧ IntKind.i64.wrap (-(H : Int)) = -(H : Int) ∧ wrap64 (-(H : Int) - 1) = -(H : Int) - 1 ∧ IntKind.i64.wrap (-(H : Int) - 1) = -(H : Int) - 1 := by
  rw [wrap_i64, wrap_i64]; unfold wrap64; omega
theorem odd_test {U : Nat} (h : U % 2 = 1) : ((U : Int) % 2 == 1) = true ∧ ((U : Int).tmod 2 == 1) = true ∧ (U : Int) % 2 = 1 ∧ (U : Int).tmod 2 = 1 := by
  have hd : (U : Int).tmod 2 = (U : Int) % 2 := Int.tmod_eq_emod_of_nonneg (by omega)
  have : (U : Int) % 2 = 1 := by omega
  rw [hd, this]
  decide
theorem even_test {U : Nat} (h : U % 2 = 0) : ((U : Int) % 2 == 1) = false ∧ ((U : Int).tmod 2 == 1) = false ∧ (U : Int) % 2 = 0 ∧ (U : Int).tmod 2 = 0 := by
  have hd : (U : Int).tmod 2 = (U : Int) % 2 := Int.tmod_eq_emod_of_nonneg (by omega)
  have : (U : Int) % 2 = 0 := by omega
  rw [hd, this]
  decide
theorem unzig_even {U : Nat} (h : U % 2 = 0) : unzig U = ((U / 2 : Nat) : Int) := by unfold unzig; rw [if_pos h]
theorem unzig_odd {U : Nat} (h : U % 2 = 1) : unzig U = -((U / 2 : Nat) : Int) - 1 := by unfold unzig; rw [if_neg (by omega)]
theorem cut_nums {at_ i a cp len : Nat} (hA : a = at_ + 8 * i) (hM : a + 8 ≤ len) (hcp : len ≤ cp) (hi : i < 10) : ∃ n z : Nat, 8 * (1 + i) = n ∧ a + 8 = z ∧ n ≤ 1000 ∧ at_ + n ≤ len ∧ (0 : Int) ≤ (at_ : Int) ∧ (at_ : Int) ≤ (z : Int) ∧ (z : Int) ≤ (cp : Int) ∧ (z : Int) - (at_ : Int) = (n : Int) ∧ ((z : Int) - (at_ : Int)).toNat = n ∧ z - at_ = n ∧ (z : Int) ≤ (len : Int) ∧ at_ ≤ z ∧ z ≤ cp := by
  refine ⟨8 * (1 + i), a + 8, rfl, rfl, ?_⟩
  omega
theorem next_nums {i a len : Nat} (hi : i < 10) (hM : a + 8 ≤ len) : ∃ r, 10 - i = r + 1 ∧ r = 10 - (i + 1) := ⟨9 - i, by omega, by omega⟩
theorem len8 {l : List Bool} {a : Nat} (hM : a + 8 ≤ l.length) : 8 ≤ (l.drop a).length := by rw [List.length_drop]; omega
theorem pos8 {a len : Nat} (hM : a + 8 ≤ len) : 0 < len := by omega
theorem x_one {x : Nat} {b : Bool} (h : (x : Int) = b01 b) (hb : b = true) : x = 1 := by rw [hb] at h; simp only [b01, if_true] at h; omega
theorem x_zero {x : Nat} {b : Bool} (h : (x : Int) = b01 b) (hb : b = false) : x = 0 := by rw [hb] at h; simp only [b01, Bool.false_eq_true, if_false] at h; omega
theorem part_len {l : List Bool} {at_ n : Nat} (h : at_ + n ≤ l.length) : ((l.drop at_).take n).length = n := by rw [List.length_take, List.length_drop]; omega
theorem half_lt {U H : Nat} (h : U < 18446744073709551616) (hH : U / 2 = H) : H < 9223372036854775808 := by omega
theorem next_a {a at_ i : Nat} (h : a = at_ + 8 * i) : a + 8 = at_ + 8 * (i + 1) := by omega
theorem fin_at {a at_ i n : Nat} (hA : a = at_ + 8 * i) (hn : 8 * (1 + i) = n) : at_ + n = a + 8 := by omega
theorem no_more {a len : Nat} (h : ¬ a + 8 ≤ len) {l : List Bool} (hl : len = l.length) : (l.drop a).length < 8 := by rw [List.length_drop]; omega
theorem both_fail {a a1 a2 len : Nat} (h : ¬ a + 8 ≤ len) (h1 : a1 = a + 1) (h2 : a2 = a1 + 7) (h3 : a2 ≤ len) : False := by omega
theorem ten {i : Nat} (h : i ≤ 10) (h2 : ¬ i < 10) : i = 10 := by omega
theorem bit_one_val (l : List Bool) (h : 1 ≤ l.length) : val (l.take 1) = b01 (l.getD 0 false) := by
  cases l with
  | nil => simp at h
  | cons b l => simp [val]

/-- A part of a list of bits that lies there. -/
theorem rd_part {W w : World} {B : Nat} {F : List Ent} {g c : Nat} {t : TypeId} {l : List Bool} (h : Holds W B w (.rw (.slice (some ⟨g, 0, none⟩) l.length c) t 1 l.length (bools l) :: F)) (s n : Nat) (hs : s + n ≤ l.length) :
    Rd w (.slice (some ⟨g, s, none⟩) n (c - s)) n (bools ((l.drop s).take n)) := by
  obtain ⟨g', c', he, hc, _⟩ : ∃ g' c', Value.slice (some ⟨g, 0, none⟩) l.length c = Value.slice (some ⟨g', 0, none⟩) l.length c' ∧ l.length ≤ c' ∧ c' ≤ maxLen := by
    rcases h.own.2 with ⟨h, _⟩ | ⟨g', cap, cur, h, _, _, hc, hm, _⟩
    · cases h
    · exact ⟨g', cap, h, hc, hm⟩
  simp only [Value.slice.injEq, true_and] at he
  obtain ⟨_, rfl⟩ := he
  refine .inr ⟨⟨g, s, none⟩, c - s, rfl, by omega, by omega, fun j u hu => ?_⟩
  have hj : j < n := by
    have := (List.getElem?_eq_some_iff.1 hu).1
    rw [bools_len, List.length_take] at this
    omega
  have e : (⟨g, s, none⟩ : Addr).add j = ⟨g, s + j, none⟩ := by unfold Addr.add; split <;> simp_all
  rw [e, h.rcell (s + j) (by omega), ← hu]
  simp only [bools, List.getElem?_map]
  rw [List.getElem?_take, if_pos hj, List.getElem?_drop]

set_option maxHeartbeats 1000000 in
theorem rrsmall_fail (W : World) (B : Nat) (w : World) (b : Nat) (l : List Bool) (at_ : Nat) (F : List Ent) (hw : HasRR W B w b l at_ true F) :
    Calls Try.prog 60 #[.pointer (some ⟨b, 0, none⟩)] w fun e' w' => e' = .returned (.int .i64 0) ∧ HasRR W B w' b l at_ true F := by
  obtain ⟨v, hH⟩ := hw
  have c2 := hH.cell 2 rfl
  have HH := Lib.hid hH
  clear hH
  go_enter Try.func60, Try.ntmps60
  go_wp2_with fail
  go_ret
  exact ⟨rfl, v, HH.out⟩

set_option maxHeartbeats 2000000 in
theorem rrsmall (W : World) (B : Nat) (w : World) (b : Nat) (l : List Bool) (at_ : Nat) (F : List Ent) (hw : HasRR W B w b l at_ false F) (hat : at_ ≤ l.length) (hl : l.length ≤ 1000000000) :
    Calls Try.prog 60 #[.pointer (some ⟨b, 0, none⟩)] w fun e' w' => e' = .returned (.int .i64 (rGives l at_).1) ∧ HasRR W B w' b l (rGives l at_).2.1 (rGives l at_).2.2 F := by
  obtain ⟨v, hH⟩ := hw
  have c1 := hH.cell 1 rfl
  have c2 := hH.cell 2 rfl
  have HH := Lib.hid hH
  have HL := Lib.hid hl
  have HAT := Lib.hid hat
  clear hH hl hat
  go_enter Try.func60, Try.ntmps60
  go_wp2_with fail
  clear c1 c2
  go_loopw [4, 5, 6] (fun us os iv wr => ∃ (i acc a : Nat) (o : Int), i ≤ 10 ∧ iv = .int .i64 i ∧ us = .int .u64 (acc % 18446744073709551616 : Nat) ∧ os = .int .u64 o ∧ (i < 10 → o = ((128 ^ i : Nat) : Int)) ∧ acc < 128 ^ i ∧ a = at_ + 8 * i ∧ a ≤ l.length ∧ HasRR W B wr b l a false F ∧
      Hid (refGo 10 (l.drop at_) = (refGo (10 - i) (l.drop a)).map (fun p => (acc + 128 ^ i * p.1, p.2 + i)))) (fun _ _ iv _ => 10 - (intOf iv).toNat)
  case atStart => exact ⟨0, 0, at_, 1, by decide, rfl, rfl, rfl, fun _ => rfl, by decide, rfl, HAT.out, ⟨v, HH.out⟩, Lib.hid (by cases refGo 10 (l.drop at_) <;> simp)⟩
  case round =>
    obtain ⟨i, acc, a, o, hi, rfl, rfl, rfl, ho, hacc, ha, hal, hW, hrd⟩ := hrel
    clear HH
    by_cases hi10 : i < 10
    · replace ho := ho hi10
      have HO := Lib.hid ho
      have HI := Lib.hid hi10
      have HACC := Lib.hid hacc
      have HA := Lib.hid ha
      obtain ⟨k0, k1, k2, k3⟩ := loop_facts hi10 (by decide)
      have HK := Lib.hid k2
      have haccm : acc % 18446744073709551616 = acc := Nat.mod_eq_of_lt (acc_small hacc (by omega))
      rw [haccm]
      have k1' : (i : Int) < 10 := k1
      by_cases hmore : a + 8 ≤ l.length
      · have ht := rrtake W B wr b l a false F 1 hW hal HL.out (by decide)
        rw [show ((1 : Nat) : Int) = 1 from rfl] at ht
        have HT := Lib.hid ht
        have HM := Lib.hid hmore
        clear ht hW k1 k2 k3 hmore hi hacc haccm hi10 ho
        go_wp2_with fail
        refine HT.out.mono ?_
        rintro e' w1 ⟨x, a1, f1, rfl, h1, _, _, hc1⟩
        have hx : f1 = false ∧ a1 = a + 1 ∧ (x : Int) = b01 ((l.drop a).getD 0 false) := by
          rcases hc1 with ⟨h1, _, h2, h3⟩ | ⟨_, _, h | h⟩
          · refine ⟨h1, h2, ?_⟩
            rw [h3, bit_one_val]
            rw [List.length_drop]
            have := HM.out
            omega
          · cases h
          · have := HM.out
            omega
        obtain ⟨rfl, rfl, hx⟩ := hx
        have ht := rrtake W B w1 b l (a + 1) false F 7 h1 (by have := HM.out; omega) HL.out (by decide)
        rw [show ((7 : Nat) : Int) = 7 from rfl] at ht
        have HT2 := Lib.hid ht
        have HX := Lib.hid hx
        clear ht hx hc1 h1 HT
        go_wp2_with fail
        refine HT2.out.mono ?_
        rintro e' w2 ⟨y, a2, f2, rfl, h2, _, hy, hc2⟩
        have hy2 : f2 = false ∧ a2 = a + 8 ∧ val (((l.drop a).drop 1).take 7) = (y : Int) := by
          rcases hc2 with ⟨h1, _, h2, h3⟩ | ⟨_, _, h | h⟩
          · exact ⟨h1, h2, by rw [h3, List.drop_drop]⟩
          · cases h
          · have := HM.out
            omega
        obtain ⟨rfl, rfl, hyv⟩ := hy2
        obtain ⟨vv, h2⟩ := h2
        obtain ⟨g, cp, rfl, hcp, _⟩ := h2.up1.row (pos8 HM.out)
        have c0 := h2.cell 0 rfl
        have c1 := h2.cell 1 rfl
        have c2 := h2.cell 2 rfl
        have f1 := h2.frozen 1
        have f2 := h2.frozen 2
        obtain ⟨P, U, p1, p2, p3, p4, hU⟩ := uv_facts (acc := acc) (y := y) HO.out
        obtain ⟨o', q1, q2, q3⟩ := one_facts HO.out
        have h8 := len8 HM.out
        obtain ⟨r, hr1, hr2⟩ := next_nums HI.out HM.out
        have hrd2 := hrd.out
        rw [hr1] at hrd2
        have HHR := Lib.hid h2
        have HY := Lib.hid hy
        have HU := Lib.hid hU
        cases hbit : (l.drop a).getD 0 false with
        | true =>
          rw [refGo_more h8 hbit hyv] at hrd2
          have hxv : x = 1 := x_one HX.out hbit
          subst hxv
          have hrd3 : refGo 10 (l.drop at_) = (refGo (10 - (i + 1)) (l.drop (a + 8))).map (fun p => (acc + 128 ^ i * y + 128 ^ (i + 1) * p.1, p.2 + (i + 1))) := by
            rw [hrd2, ← hr2, List.drop_drop, Option.map_map]
            congr 1
            funext p
            simp only [Function.comp, Prod.mk.injEq]
            refine ⟨?_, by omega⟩
            rw [Nat.pow_succ, Nat.mul_add, Nat.mul_assoc]
            omega
          have HRD3 := Lib.hid hrd3
          have HQ3 := Lib.hid q3
          clear hrd hrd2 hrd3 hyv hc2 h2 h8 hr1 hr2 hbit q3 hU hy HT2
          go_wp2_with fail
          clear p1 p2 p3 p4 q1 q2 c0 c1 c2 f1 f2
          try rw [HK.out]
          refine ⟨⟨i + 1, acc + 128 ^ i * y, a + 8, o', HI.out, cast_succ i, by rw [HU.out], rfl, HQ3.out, acc_next HACC.out (by have := HY.out; simpa using this), next_a HA.out, HM.out, ⟨_, HHR.out⟩, HRD3.out⟩, succ_less HI.out⟩
        | false =>
          rw [refGo_end h8 hbit hyv] at hrd2
          have hxv : x = 0 := x_zero HX.out hbit
          subst hxv
          rw [Option.map_some] at hrd2
          have hUlt : U < 18446744073709551616 := by rw [hU]; exact Nat.mod_lt _ (by decide)
          obtain ⟨n, z, hn, hz, hnl, hnle, s1, s2, s3, s4, s5, s6, s7, s8, s9⟩ := cut_nums HA.out HM.out hcp HI.out
          have hpart := rd_part h2.up1 at_ n hnle
          have hur := unzig_range U hUlt
          have HUR := Lib.hid hur
          have E0 := cell_regrown c0
          have E1 := cell_regrown c1
          have hsub := part_len hnle
          obtain ⟨S, hS⟩ : ∃ S, (l.drop at_).take n = S := ⟨_, rfl⟩
          rw [hS] at hpart hsub
          have HC : Hid (∀ (d : Nat) (os : Array Obj) (X : Int), X = unzig U → Calls Try.prog 63 #[.slice (some ⟨g, at_, none⟩) n (cp - at_), .int .i64 X] (grow (redrawn w2 d) os) fun e w'' => e = .returned (.bool (decide (S = smallB U))) ∧ ∃ p : Regrown, w'' = grow (redrawn w2 p.d) p.os) := fun d os X hX => Calls.regrown_of (by
            have h := rsamS (grow (redrawn w2 d) os) (.slice (some ⟨g, at_, none⟩) n (cp - at_)) S X (by rw [hsub]; exact Rd.below hpart (below_regrown w2 d os)) (by rw [hsub]; exact hnl) (by rw [hX]; exact HUR.out.1) (by rw [hX]; exact HUR.out.2)
            rw [hX, zig_unzig, Int.toNat_natCast] at h
            rw [hX]
            exact h)
          have HRD3 := Lib.hid hrd2
          have HSS := Lib.hid hS
          have HNN := Lib.hid hn
          have HZZ := Lib.hid hz
          rw [hz] at E1
          have HSF := Lib.hid (And.intro s1 (And.intro s2 (And.intro s3 (And.intro s4 (And.intro s5 (And.intro s6 (And.intro s7 (And.intro s8 s9))))))))
          clear s1 s2 s3 s4 s5 s6 s7 s8 s9
          clear hrd hrd2 hyv hc2 h8 hr1 hr2 hbit q3 hU hy HT2 hpart hur hS hn hz hsub hnl c0 hnle
          go_upto_region 15 with (fail)
          clear p1 p2 p3 p4 q1 q2
          obtain ⟨g1, g2, g3, g4, g5, g6, g7, g8⟩ := half_facts hUlt
          clear g1 g2 g3 g4 g5
          obtain ⟨H, hH⟩ : ∃ H, U / 2 = H := ⟨_, rfl⟩
          rw [hH] at g6 g7 g8
          have hHlt := half_lt hUlt hH
          obtain ⟨n1, n2, n3, n4⟩ := neg_facts hHlt
          have HHH := Lib.hid hH
          clear hH hHlt hUlt h2
          obtain ⟨q, hqv⟩ : ∃ q, decide (S = smallB U) = q := ⟨_, rfl⟩
          rw [hqv] at HC
          have HQV := Lib.hid hqv
          clear hqv
          rcases Nat.mod_two_eq_zero_or_one U with hpar | hpar
          · obtain ⟨e1, e2, e3, e4⟩ := even_test hpar
            clear e1 e3
            have hX : (H : Int) = unzig U := by rw [unzig_even hpar, HHH.out]
            have HXX := Lib.hid hX
            clear hX hpar
            go_upto_region 18 with (fail)
            try rw [g7]
            try rw [n1]
            try rw [n3]
            clear g6 g7 g8 n1 n2 n3 n4 e2 e4
            obtain ⟨s1, s2, s3, s4, s5, s6, s7, s8, s9⟩ := HSF.out
            refine wp_region_quiet_below (by kernel_rfl) (by kernel_rfl) ?_
            repeat (go_big_quiet_step (first | (go_at_call 63; with_reducible exact HC.out _ _ _ HXX.out)))
            refine wpQuiet_nil ?_
            intro _ hw'
            obtain ⟨⟨dq, osq⟩, hw''⟩ := hw'
            subst hw''
            have hbx := below_regrown w2 dq osq
            clear E0 E1 HC s1 s2 s3 s4 s5 s6 s7 s8 s9 c1 c2 f1 f2
            generalize grow (redrawn w2 dq) osq = w5 at *
            have h5 := hbelowed HHR.out hbx
            cases q with
            | true =>
              have hfin := rg_end HRD3.out HU.out (by rw [HNN.out, HSS.out]; exact of_decide_eq_true HQV.out)
              have HF := Lib.hid hfin
              have H5 := Lib.hid h5
              clear hfin h5 hbx
              go_wp2_with fail
              go_ret
              rw [HF.out, HXX.out]
              refine ⟨rfl, .slice (some ⟨g, 0, none⟩) l.length cp, ?_⟩
              dsimp only
              rw [HNN.out, fin_at HA.out HNN.out]
              exact H5.out
            | false =>
              have hfin := rg_bad HRD3.out HU.out (by rw [HNN.out, HSS.out]; exact of_decide_eq_false HQV.out)
              have HF := Lib.hid hfin
              have c1 := h5.cell 1 rfl
              have f1 := h5.frozen 1
              have c2 := h5.cell 2 rfl
              have f2 := h5.frozen 2
              have h6 := (h5.set 1 (.int .i64 (at_ : Int))).set 2 (.bool true)
              have H6 := Lib.hid h6
              clear hfin h5 h6 hbx
              go_wp2_with fail
              go_ret
              rw [HF.out]
              exact ⟨rfl, _, H6.out⟩
          · obtain ⟨e1, e2, e3, e4⟩ := odd_test hpar
            clear e1 e3
            have hX : -(H : Int) - 1 = unzig U := by rw [unzig_odd hpar, HHH.out]
            have HXX := Lib.hid hX
            clear hX hpar
            go_upto_region 18 with (fail)
            try rw [g7]
            try rw [n1]
            try rw [n3]
            clear g6 g7 g8 n1 n2 n3 n4 e2 e4
            obtain ⟨s1, s2, s3, s4, s5, s6, s7, s8, s9⟩ := HSF.out
            refine wp_region_quiet_below (by kernel_rfl) (by kernel_rfl) ?_
            repeat (go_big_quiet_step (first | (go_at_call 63; with_reducible exact HC.out _ _ _ HXX.out)))
            refine wpQuiet_nil ?_
            intro _ hw'
            obtain ⟨⟨dq, osq⟩, hw''⟩ := hw'
            subst hw''
            have hbx := below_regrown w2 dq osq
            clear E0 E1 HC s1 s2 s3 s4 s5 s6 s7 s8 s9 c1 c2 f1 f2
            generalize grow (redrawn w2 dq) osq = w5 at *
            have h5 := hbelowed HHR.out hbx
            cases q with
            | true =>
              have hfin := rg_end HRD3.out HU.out (by rw [HNN.out, HSS.out]; exact of_decide_eq_true HQV.out)
              have HF := Lib.hid hfin
              have H5 := Lib.hid h5
              clear hfin h5 hbx
              go_wp2_with fail
              go_ret
              rw [HF.out, HXX.out]
              refine ⟨rfl, .slice (some ⟨g, 0, none⟩) l.length cp, ?_⟩
              dsimp only
              rw [HNN.out, fin_at HA.out HNN.out]
              exact H5.out
            | false =>
              have hfin := rg_bad HRD3.out HU.out (by rw [HNN.out, HSS.out]; exact of_decide_eq_false HQV.out)
              have HF := Lib.hid hfin
              have c1 := h5.cell 1 rfl
              have f1 := h5.frozen 1
              have c2 := h5.cell 2 rfl
              have f2 := h5.frozen 2
              have h6 := (h5.set 1 (.int .i64 (at_ : Int))).set 2 (.bool true)
              have H6 := Lib.hid h6
              clear hfin h5 h6 hbx
              go_wp2_with fail
              go_ret
              rw [HF.out]
              exact ⟨rfl, _, H6.out⟩
      · have ht := rrtake W B wr b l a false F 1 hW hal HL.out (by decide)
        rw [show ((1 : Nat) : Int) = 1 from rfl] at ht
        have HT := Lib.hid ht
        have hno := rg_none (l := l) (at_ := at_) (by rw [hrd.out, refGo_short (no_more hmore rfl)]; rfl)
        have HNO := Lib.hid hno
        have HM := Lib.hid hmore
        clear ht hW k1 k2 k3 hmore hi hacc haccm hi10 ho hno hrd
        go_wp2_with fail
        refine HT.out.mono ?_
        rintro e' w1 ⟨x, a1, f1, rfl, h1, ha1, _, hc1⟩
        have ht := rrtake W B w1 b l a1 f1 F 7 h1 ha1 HL.out (by decide)
        rw [show ((7 : Nat) : Int) = 7 from rfl] at ht
        have HT2 := Lib.hid ht
        have HC1 := Lib.hid hc1
        clear ht hc1 h1 HT
        go_wp2_with fail
        refine HT2.out.mono ?_
        rintro e' w2 ⟨y, a2, f2, rfl, h2, ha2, hy, hc2⟩
        have hf2 : f2 = true := by
          rcases hc2 with ⟨_, e1, e2, _⟩ | ⟨h, _⟩
          · rcases HC1.out with ⟨_, _, e3, _⟩ | ⟨e3, _⟩
            · exact (both_fail HM.out e3 e2 ha2).elim
            · rw [e1] at e3; cases e3
          · exact h
        subst hf2
        obtain ⟨vv, h2⟩ := h2
        have c1 := h2.cell 1 rfl
        have c2 := h2.cell 2 rfl
        have f1 := h2.frozen 1
        have h6 := h2.set 1 (.int .i64 (at_ : Int))
        have H6 := Lib.hid h6
        clear h2 h6 hc2 HT2 HC1 hy ha2 ha1
        go_wp2_with fail
        go_ret
        rw [HNO.out]
        exact ⟨rfl, _, H6.out⟩
    · obtain rfl := ten hi hi10
      have hno := rg_none (l := l) (at_ := at_) (by rw [hrd.out]; rfl)
      have HNO := Lib.hid hno
      obtain ⟨vv, h2⟩ := hW
      have c1 := h2.cell 1 rfl
      have c2 := h2.cell 2 rfl
      have f1 := h2.frozen 1
      have f2 := h2.frozen 2
      have h6 := (h2.set 1 (.int .i64 (at_ : Int))).set 2 (.bool true)
      have H6 := Lib.hid h6
      rw [show ((10 : Nat) : Int) = 10 from rfl]
      clear h2 h6 hno hrd ho hacc hi hi10
      go_wp2_with fail
      go_ret
      rw [HNO.out]
      exact ⟨rfl, _, H6.out⟩

end Go.Proofs.Ytfcncmhcmbghpaa.RRd
