/- The reference's assembler: Waits and drop, by the program. -/
import Derived.Test.YtpnnalkihcemhaaFeedsM
import Derived.Test.YtpnnalkihcemhaaQTail
import Derived.Lib.QuietBelow
import Derived.BigQuiet
import Derived.Deep.Cut
set_option linter.unusedVariables false
set_option linter.unusedSimpArgs false
namespace Go.Proofs.Ytpnnalkihcemhaa.Frag
open Go.Sort Go.RowKit Go.Deep Go.Proofs.Ytpnnalkihcemhaa.Mem Go.Proofs.Ytpnnalkihcemhaa.Open Go.Proofs.Ytpnnalkihcemhaa.Num Go.Proofs.Ytpnnalkihcemhaa.Wr Go.Proofs.Ytpnnalkihcemhaa.Bits Go.Proofs.Ytpnnalkihcemhaa.Step Go.Proofs.YtpnnalkihcemhaaW.PrintWords

theorem mine_quiet (w : World) (x y : RP × Value) {bb : Bool} (h : mineB x.1 y.1 = bb) : ∀ d os, Calls Try.prog 51 #[.agg #[.int .u16 x.1.id, .int .i64 x.1.n, .int .i64 x.1.at_, x.2], .agg #[.int .u16 y.1.id, .int .i64 y.1.n, .int .i64 y.1.at_, y.2]] (grow (redrawn w d) os) fun e w'' => e = .returned (.bool bb) ∧ ∃ p : Regrown, w'' = grow (redrawn w p.d) p.os := fun d os => Calls.regrown_of (by
  have := rmine (grow (redrawn w d) os) x.1.id x.1.n x.1.at_ x.2 y.1.id y.1.n y.1.at_ y.2
  rw [show (x.1.id == y.1.id && x.1.n == y.1.n) = bb from h] at this
  exact this)

/-- How many came first, of the first i; and whether none of the first k is of part i's message. -/
def firstOf (L : List (RP × Value)) (i k : Nat) (x : RP) : Bool := ((L.take k).all fun y => !mineB y.1 x)
theorem firstOf_next {L : List (RP × Value)} {i k : Nat} {x : RP} {y : RP × Value} (h : L[k]? = some y) : firstOf L i (k + 1) x = (firstOf L i k x && !mineB y.1 x) := by
  unfold firstOf
  rw [List.take_add_one, h, List.all_append]
  simp
def waitsTo (L : List (RP × Value)) (i : Nat) : Nat := waitsR ((L.take i).map (·.1))
theorem waitsTo_next {L : List (RP × Value)} {i : Nat} {x : RP × Value} (h : L[i]? = some x) : waitsTo L (i + 1) = waitsTo L i + if firstOf L i i x.1 = true then 1 else 0 := by
  unfold waitsTo waitsR
  rw [List.take_add_one, h, Option.toList_some, List.map_append, List.map_append, List.map_cons, List.map_nil, List.map_cons, List.map_nil, keysOf_snoc]
  unfold addK
  have hm : x.1.key ∈ keysOf (((L.take i).map (·.1)).map RP.key) ↔ ¬ firstOf L i i x.1 = true := by
    rw [mem_keysOf]
    unfold firstOf
    rw [List.all_eq_true]
    constructor
    · intro hm hall
      obtain ⟨q, hq, he⟩ := List.mem_map.1 hm
      obtain ⟨y, hy, rfl⟩ := List.mem_map.1 hq
      have := hall y hy
      rw [mineB_iff, decide_eq_true he] at this
      cases this
    · intro hn
      apply Classical.byContradiction
      intro hm
      refine hn fun y hy => ?_
      rw [mineB_iff, decide_eq_false]
      · rfl
      · intro he
        exact hm (List.mem_map.2 ⟨y.1, List.mem_map.2 ⟨y, hy, rfl⟩, he⟩)
  by_cases h1 : firstOf L i i x.1 = true
  · rw [if_neg (fun h2 => hm.1 h2 h1), if_pos h1, List.length_append]
    rfl
  · rw [if_pos (hm.2 h1), if_neg h1]
    rfl
theorem waitsTo_le (L : List (RP × Value)) (i : Nat) : waitsTo L i ≤ i := by
  induction i with
  | zero => simp [waitsTo, waitsR, keysOf]
  | succ i ih =>
    cases h : L[i]? with
    | none =>
      have : L.take (i + 1) = L.take i := by rw [List.take_add_one, h]; simp
      unfold waitsTo at ih ⊢
      rw [this]
      omega
    | some x => rw [waitsTo_next h]; split <;> omega
theorem cell_lt {i n j : Nat} (h : i < n) (hj : j < 4) : i * 4 + j < n * 4 := by omega
theorem w_facts {z i : Nat} (h : z ≤ i) (hi : i ≤ 1000) : wrap64 ((z : Int) + 1) = ((z + 1 : Nat) : Int) ∧ IntKind.i64.wrap ((z : Int) + 1) = ((z + 1 : Nat) : Int) := by rw [wrap_i64]; unfold wrap64; omega

set_option maxRecDepth 100000 in
set_option maxHeartbeats 2000000 in
theorem rwaits (W w : World) (b : Nat) (L : List (RP × Value)) (F : List Ent) (hR : RA W w b L F) :
    Calls Try.prog 23 #[.pointer (some ⟨b, 0, none⟩)] w fun e' w' => e' = .returned (.int .i64 ((waitsR (L.map (·.1)) : Nat) : Int)) ∧ Below w.heap.size w w' := by
  obtain ⟨hl, hok, v, hH⟩ := hR
  obtain ⟨A, c, rfl⟩ := hH.up1.slice
  have HH := Lib.hid hH
  have HL := Lib.hid hl
  clear hH hl hok
  go_enter Try.func23, Try.ntmps23
  go_wp2_with fail
  go_loopw [3, 4] (fun nv iv wr => ∃ i : Nat, Hid (i ≤ L.length) ∧ iv = .int .i64 i ∧ nv = .int .i64 ((waitsTo L i : Nat) : Int) ∧ Hid (Below w.heap.size w wr)) (fun _ iv _ => L.length - (intOf iv).toNat)
  case atStart => exact ⟨0, Lib.hid (Nat.zero_le _), rfl, rfl, Lib.hid (Below.refl _ _)⟩
  case round =>
    obtain ⟨i, HI, rfl, rfl, HB⟩ := hrel
    have hC := Holds.belowed HH.out HB.out
    have e0 := hC.cell 0 rfl
    by_cases hin : i < L.length
    · obtain ⟨g, cap, he, _⟩ := hC.up1.row (Nat.lt_of_le_of_lt (Nat.zero_le _) hin)
      simp only [Value.slice.injEq, true_and] at he
      obtain ⟨rfl, rfl⟩ := he
      obtain ⟨x, hx⟩ : ∃ x, L[i]? = some x := ⟨_, List.getElem?_eq_getElem hin⟩
      obtain ⟨k0, k1, k2, k3⟩ := fi_facts hin HL.out
      have HX := Lib.hid hx
      have HIN := Lib.hid hin
      obtain ⟨z, hz⟩ : ∃ z, waitsTo L i = z := ⟨_, rfl⟩
      obtain ⟨w1, w2⟩ := w_facts (z := z) (i := i) (hz ▸ waitsTo_le L i) (Nat.le_trans HI.out HL.out)
      have HZ := Lib.hid hz
      rw [hz]
      clear hC hx hin hz
      go_wp2_with fail
      go_loopw [5, 6] (fun fv kv wr => ∃ k : Nat, Hid (k ≤ i) ∧ kv = .int .i64 k ∧ fv = .bool (firstOf L i k x.1) ∧ Hid (Below w.heap.size w wr)) (fun _ kv _ => i - (intOf kv).toNat)
      case atStart => exact ⟨0, Lib.hid (Nat.zero_le _), rfl, by unfold firstOf; rw [List.take_zero]; rfl, HB⟩
      case round =>
        obtain ⟨k, HK, rfl, rfl, HB2⟩ := hrel
        rename_i wq
        have hC := Holds.belowed HH.out HB2.out
        by_cases hki : k < i
        · obtain ⟨y, hy⟩ : ∃ y, L[k]? = some y := ⟨_, List.getElem?_eq_getElem (Nat.lt_trans hki HIN.out)⟩
          obtain ⟨j0, j1, j2, j3⟩ := fi_facts hki (Nat.le_trans HI.out HL.out)
          have j4 : (k : Int) < (L.length : Int) := Int.ofNat_lt.2 (Nat.lt_trans hki HIN.out)
          have hnx := firstOf_next (i := i) (x := x.1) hy
          obtain ⟨fv, hfv⟩ : ∃ fv, firstOf L i k x.1 = fv := ⟨_, rfl⟩
          rw [hfv] at hnx ⊢
          have HKI := Lib.hid hki
          cases fv with
          | false =>
            have HNX := Lib.hid hnx
            clear hC hy hnx hfv hki e0
            go_upto_region 9 with (fail)
            refine wp_region_quiet_below (by kernel_rfl) (by kernel_rfl) ?_
            repeat (go_big_quiet_step (fail))
            refine wpQuiet_nil ?_
            intro _ hw'
            obtain ⟨⟨dq, osq⟩, hw''⟩ := hw'
            subst hw''
            have HB3 := Lib.hid (HB2.out.trans ((below_regrown wr dq osq).mono HB2.out.size))
            generalize grow (redrawn wr dq) osq = w4 at *
            go_wp2_with fail
            exact ⟨⟨k + 1, Lib.hid HKI.out, by go_num, by rw [HNX.out]; rfl, HB3⟩, fi_down HKI.out⟩
          | true =>
            obtain ⟨bb, hbb⟩ : ∃ bb, mineB y.1 x.1 = bb := ⟨_, rfl⟩
            rw [hbb] at hnx
            have HNX := Lib.hid hnx
            have HC : Hid _ := Lib.hid (mine_quiet wr y x hbb)
            have e0 := hC.cell 0 rfl
            have d0 := (hC.up1.rcell (k * 4 + 0) (cell_lt (Nat.lt_trans HKI.out HIN.out) (by decide))).trans (prow_at L k y hy 0 (by decide))
            have d1 := (hC.up1.rcell (k * 4 + 1) (cell_lt (Nat.lt_trans HKI.out HIN.out) (by decide))).trans (prow_at L k y hy 1 (by decide))
            have d2 := (hC.up1.rcell (k * 4 + 2) (cell_lt (Nat.lt_trans HKI.out HIN.out) (by decide))).trans (prow_at L k y hy 2 (by decide))
            have d3 := (hC.up1.rcell (k * 4 + 3) (cell_lt (Nat.lt_trans HKI.out HIN.out) (by decide))).trans (prow_at L k y hy 3 (by decide))
            have c0 := (hC.up1.rcell (i * 4 + 0) (cell_lt HIN.out (by decide))).trans (prow_at L i x HX.out 0 (by decide))
            have c1 := (hC.up1.rcell (i * 4 + 1) (cell_lt HIN.out (by decide))).trans (prow_at L i x HX.out 1 (by decide))
            have c2 := (hC.up1.rcell (i * 4 + 2) (cell_lt HIN.out (by decide))).trans (prow_at L i x HX.out 2 (by decide))
            have c3 := (hC.up1.rcell (i * 4 + 3) (cell_lt HIN.out (by decide))).trans (prow_at L i x HX.out 3 (by decide))
            simp only [pcells, List.getElem?_cons_zero, List.getElem?_cons_succ, Nat.add_zero] at d0 d1 d2 d3 c0 c1 c2 c3
            have E0 := cell_regrown e0
            have D0 := cell_regrown d0
            have D1 := cell_regrown d1
            have D2 := cell_regrown d2
            have D3 := cell_regrown d3
            have C0 := cell_regrown c0
            have C1 := cell_regrown c1
            have C2 := cell_regrown c2
            have C3 := cell_regrown c3
            clear hC hy hnx hfv hki hbb e0 d0 d1 d2 d3 c0 c1 c2 c3
            go_upto_region 9 with (fail)
            refine wp_region_quiet_below (by kernel_rfl) (by kernel_rfl) ?_
            repeat (go_big_quiet_step ((go_at_call 51; with_reducible exact HC.out _ _)))
            refine wpQuiet_nil ?_
            intro _ hw'
            obtain ⟨⟨dq, osq⟩, hw''⟩ := hw'
            subst hw''
            have HB3 := Lib.hid (HB2.out.trans ((below_regrown wr dq osq).mono HB2.out.size))
            clear E0 D0 D1 D2 D3 C0 C1 C2 C3 HC
            generalize grow (redrawn wr dq) osq = w4 at *
            go_wp2_with fail
            exact ⟨⟨k + 1, Lib.hid HKI.out, by go_num, by rw [HNX.out]; rfl, HB3⟩, fi_down HKI.out⟩
        · obtain rfl : k = i := Nat.le_antisymm HK.out (Nat.le_of_not_lt hki)
          have k9 : ¬ (k : Int) < (k : Int) := Int.lt_irrefl _
          have hnx := waitsTo_next HX.out
          obtain ⟨fv, hfv⟩ : ∃ fv, firstOf L k k x.1 = fv := ⟨_, rfl⟩
          rw [hfv] at hnx ⊢
          rw [HZ.out] at hnx
          clear hC hfv hki e0
          cases fv with
          | false =>
            have HNX := Lib.hid hnx
            clear hnx
            go_wp2_with fail
            exact ⟨⟨k + 1, Lib.hid HIN.out, by go_num, by rw [HNX.out]; rfl, HB2⟩, fi_down HIN.out⟩
          | true =>
            have HNX := Lib.hid hnx
            clear hnx
            go_wp2_with fail
            exact ⟨⟨k + 1, Lib.hid HIN.out, by go_num, by rw [HNX.out]; rfl, HB2⟩, fi_down HIN.out⟩
    · obtain rfl : i = L.length := Nat.le_antisymm HI.out (Nat.le_of_not_lt hin)
      have k9 : ¬ (L.length : Int) < (L.length : Int) := Int.lt_irrefl _
      have hw : waitsTo L L.length = waitsR (L.map (·.1)) := by unfold waitsTo; rw [List.take_length]
      rw [hw]
      clear hC hin hw
      go_wp2_with fail
      go_ret
      exact ⟨rfl, HB.out⟩

end Go.Proofs.Ytpnnalkihcemhaa.Frag
