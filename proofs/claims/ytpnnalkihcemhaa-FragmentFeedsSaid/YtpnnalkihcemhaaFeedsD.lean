/- The reference's assembler: drop, by the program. -/
import Derived.Test.YtpnnalkihcemhaaFeedsV
set_option linter.unusedVariables false
set_option linter.unusedSimpArgs false
namespace Go.Proofs.Ytpnnalkihcemhaa.Frag
open Go.Sort Go.RowKit Go.Deep Go.Proofs.Ytpnnalkihcemhaa.Mem Go.Proofs.Ytpnnalkihcemhaa.Open Go.Proofs.Ytpnnalkihcemhaa.Num Go.Proofs.Ytpnnalkihcemhaa.Wr Go.Proofs.Ytpnnalkihcemhaa.Bits Go.Proofs.Ytpnnalkihcemhaa.Step Go.Proofs.YtpnnalkihcemhaaW.PrintWords

theorem info_part : (Try.prog.info? 117).map (fun i => (i.zero, i.size, i.bytes)) = some (some (.agg #[.int .u16 0, .int .i64 0, .int .i64 0, .slice none 0 0]), 4, 48) := by kernel_rfl
def keepR (p : RP) (L : List (RP × Value)) : List (RP × Value) := L.filter fun y => !mineB y.1 p
theorem keepR_next {L : List (RP × Value)} {i : Nat} {p : RP} {y : RP × Value} (h : L[i]? = some y) : keepR p (L.take (i + 1)) = keepR p (L.take i) ++ if mineB y.1 p = true then [] else [y] := by
  unfold keepR
  rw [List.take_add_one, h, List.filter_append]
  congr 1
  cases hm : mineB y.1 p <;> simp [hm]
theorem keepR_map (p : RP) (L : List (RP × Value)) : (keepR p L).map (·.1) = dropR (L.map (·.1)) p := by
  unfold keepR dropR
  rw [List.filter_map]
  congr 1
  refine List.filter_congr fun y _ => ?_
  rw [mineB_iff]
  rfl
theorem keepR_len (p : RP) (L : List (RP × Value)) (i : Nat) (hi : i < L.length) (hl : L.length ≤ 1000) : (keepR p (L.take i)).length + 1 ≤ 1000000 := by
  have := List.length_filter_le (fun y : RP × Value => !mineB y.1 p) (L.take i)
  rw [List.length_take] at this
  unfold keepR
  omega
theorem pcells_one {W : World} {x : RP × Value} (h : RPok W x) : ∀ u, u ∈ pcells x → u.oneCell' = true := by
  intro u hu
  simp [pcells] at hu
  rcases hu with rfl | rfl | rfl | rfl
  · rfl
  · rfl
  · rfl
  · rcases h.rd with ⟨h1, _⟩ | ⟨ad, c, h1, _⟩
    · rw [h1]; rfl
    · rw [h1]; rfl

set_option maxRecDepth 100000 in
set_option maxHeartbeats 2000000 in
theorem rdrop (W w : World) (b : Nat) (L : List (RP × Value)) (F : List Ent) (hR : RA W w b L F) (p : RP) (pv : Value) :
    Calls Try.prog 52 #[.pointer (some ⟨b, 0, none⟩), .agg #[.int .u16 p.id, .int .i64 p.n, .int .i64 p.at_, pv]] w fun e' w' => e' = .returned (.tuple #[]) ∧ RA W w' b (keepR p L) F := by
  obtain ⟨hl, hok, v, hH⟩ := hR
  obtain ⟨A, c, rfl⟩ := hH.up1.slice
  obtain ⟨i0, hi, hz0, hz1, hz2⟩ := info_parts info_part
  have h1 := hH.alloc [.int .u16 p.id, .int .i64 p.n, .int .i64 p.at_, pv] 117
  obtain ⟨gp, hgp⟩ : ∃ gp, w.heap.size = gp := ⟨_, rfl⟩
  rw [hgp] at h1
  have H1 := Lib.hid (h1.nilrow 117 4)
  have HL := Lib.hid hl
  have HOK := Lib.hid hok
  clear hH hl hok h1
  go_enter Try.func52, Try.ntmps52
  go_wp2_with fail
  clear hgp
  go_loopw [4, 5] (fun lv iv wr => ∃ i : Nat, Hid (i ≤ L.length) ∧ iv = .int .i64 i ∧ Hid (Holds W W.heap.size wr (.rw lv 117 4 (keepR p (L.take i)).length (prow (keepR p (L.take i))) :: .st gp [.int .u16 p.id, .int .i64 p.n, .int .i64 p.at_, pv] 117 :: .st b [.slice A L.length c] 45 :: .rw (.slice A L.length c) 117 4 L.length (prow L) :: F))) (fun _ iv _ => L.length - (intOf iv).toNat)
  case atStart => exact ⟨0, Lib.hid (Nat.zero_le _), rfl, H1⟩
  case round =>
    obtain ⟨i, HI, rfl, HX⟩ := hrel
    clear H1
    have e0 := HX.out.up2.cell 0 rfl
    by_cases hin : i < L.length
    · obtain ⟨g, cap, he, _⟩ := HX.out.up3.row (Nat.lt_of_le_of_lt (Nat.zero_le _) hin)
      simp only [Value.slice.injEq, true_and] at he
      obtain ⟨rfl, rfl⟩ := he
      obtain ⟨y, hy⟩ : ∃ y, L[i]? = some y := ⟨_, List.getElem?_eq_getElem hin⟩
      obtain ⟨k0, k1, k2, k3⟩ := fi_facts hin HL.out
      obtain ⟨bb, hbb⟩ : ∃ bb, mineB y.1 p = bb := ⟨_, rfl⟩
      have hnx := keepR_next (p := p) hy
      have HC : Hid _ := Lib.hid (mine_quiet wr y (p, pv) hbb)
      have hone := pcells_one (HOK.out y (List.mem_of_getElem? hy))
      have hfew := keepR_len p L i hin HL.out
      have d0 := (HX.out.up3.rcell (i * 4 + 0) (cell_lt hin (by decide))).trans (prow_at L i y hy 0 (by decide))
      have d1 := (HX.out.up3.rcell (i * 4 + 1) (cell_lt hin (by decide))).trans (prow_at L i y hy 1 (by decide))
      have d2 := (HX.out.up3.rcell (i * 4 + 2) (cell_lt hin (by decide))).trans (prow_at L i y hy 2 (by decide))
      have d3 := (HX.out.up3.rcell (i * 4 + 3) (cell_lt hin (by decide))).trans (prow_at L i y hy 3 (by decide))
      have c0 := HX.out.up1.cell 0 rfl
      have c1 := HX.out.up1.cell 1 rfl
      have c2 := HX.out.up1.cell 2 rfl
      have c3 := HX.out.up1.cell 3 rfl
      simp only [pcells, List.getElem?_cons_zero, List.getElem?_cons_succ, Nat.add_zero] at d0 d1 d2 d3
      rw [hbb] at hnx
      have HNX := Lib.hid hnx
      have HY := Lib.hid (And.intro hy (And.intro hone hfew))
      have HIN := Lib.hid hin
      have E0 := cell_regrown e0
      have D0 := cell_regrown d0
      have D1 := cell_regrown d1
      have D2 := cell_regrown d2
      have D3 := cell_regrown d3
      have C0 := cell_regrown c0
      have C1 := cell_regrown c1
      have C2 := cell_regrown c2
      have C3 := cell_regrown c3
      clear hy hone hfew hnx hbb hin d0 d1 d2 d3 c0 c1 c2 c3
      go_upto_region 5 with (fail)
      refine wp_region_quiet_below (by kernel_rfl) (by kernel_rfl) ?_
      repeat (go_big_quiet_step ((go_at_call 51; with_reducible exact HC.out _ _)))
      refine wpQuiet_nil ?_
      intro _ hw'
      obtain ⟨⟨dq, osq⟩, hw''⟩ := hw'
      subst hw''
      have hx2 := Holds.belowed HX.out (below_regrown wr dq osq)
      clear E0 D0 D1 D2 D3 C0 C1 C2 C3 HC e0 HX
      generalize grow (redrawn wr dq) osq = w4 at *
      have HX := Lib.hid hx2
      clear hx2
      cases bb with
      | true =>
        go_wp2_with fail
        exact ⟨⟨i + 1, Lib.hid HIN.out, by go_num, Lib.hid (by rw [HNX.out, if_pos rfl, List.append_nil]; exact HX.out)⟩, fi_down HIN.out⟩
      | false =>
        have e0 := HX.out.up2.cell 0 rfl
        have d0 := (HX.out.up3.rcell (i * 4 + 0) (cell_lt HIN.out (by decide))).trans (prow_at L i y HY.out.1 0 (by decide))
        have d1 := (HX.out.up3.rcell (i * 4 + 1) (cell_lt HIN.out (by decide))).trans (prow_at L i y HY.out.1 1 (by decide))
        have d2 := (HX.out.up3.rcell (i * 4 + 2) (cell_lt HIN.out (by decide))).trans (prow_at L i y HY.out.1 2 (by decide))
        have d3 := (HX.out.up3.rcell (i * 4 + 3) (cell_lt HIN.out (by decide))).trans (prow_at L i y HY.out.1 3 (by decide))
        simp only [pcells, List.getElem?_cons_zero, List.getElem?_cons_succ, Nat.add_zero] at d0 d1 d2 d3
        have HA := Lib.hid (HX.out.alloc' (.cells #[.int .u16 y.1.id, .int .i64 y.1.n, .int .i64 y.1.at_, y.2] 117))
        go_wp2_with (at_builtin; refine wpList_append_one rfl _ _ _ rfl 117 i0 _ 4 48 Try.underlying43 hi hz0 hz1 hz2 rfl (by decide) rfl HA.out (pcells y) rfl rfl (fun j u hu => cell_one_at rfl (by simpa [pcells] using hu)) HY.out.2.1 HY.out.2.2 (by decide) ?_)
        intro v8 w8 h8
        have H8 := Lib.hid h8
        clear h8 HA e0 d0 d1 d2 d3
        go_wp2_with fail
        refine ⟨⟨i + 1, Lib.hid HIN.out, by go_num, Lib.hid ?_⟩, fi_down HIN.out⟩
        rw [HNX.out, if_neg (by decide), prow_snoc, List.length_append]
        exact H8.out
    · obtain rfl : i = L.length := Nat.le_antisymm HI.out (Nat.le_of_not_lt hin)
      have k9 : ¬ (L.length : Int) < (L.length : Int) := Int.lt_irrefl _
      have hx := HX.out
      rw [List.take_length] at hx
      obtain ⟨Al, cl, rfl⟩ := hx.slice
      have q0 := hx.up2.cell 0 rfl
      have f0 := hx.up2.frozen 0
      have h9 := hx.up2.set 0 (.slice Al (keepR p L).length cl)
      simp only [List.set] at h9
      have H9 := Lib.hid h9
      clear hx h9 HX hin e0
      go_wp2_with fail
      have hz := Holds.sel [_, _, _, _] H9.out [0, 1] rfl
      simp only [pick, List.getElem?_cons_succ, List.getElem?_cons_zero, List.append_eq, List.cons_append, List.nil_append] at hz
      have hfin : RA W _ b (keepR p L) F := ⟨Nat.le_trans (List.length_filter_le _ _) HL.out, fun x hx => HOK.out x (List.mem_filter.1 hx).1, _, hz⟩
      go_end0
      exact ⟨rfl, hfin⟩

/-- Of the first i parts: how many are of x's message; none is x's own place. -/
def cntTo (L : List (RP × Value)) (x : RP) (i : Nat) : Nat := (L.take i).countP fun y => mineB y.1 x
theorem cntTo_next {L : List (RP × Value)} {x : RP} {i : Nat} {y : RP × Value} (h : L[i]? = some y) : cntTo L x (i + 1) = cntTo L x i + if mineB y.1 x = true then 1 else 0 := by
  unfold cntTo
  rw [List.take_add_one, h, List.countP_append]
  simp
theorem cntTo_le (L : List (RP × Value)) (x : RP) (i : Nat) : cntTo L x i ≤ i := by
  unfold cntTo
  exact Nat.le_trans List.countP_le_length (List.length_take_le _ _)
def NoOld (L : List (RP × Value)) (x : RP) (i : Nat) : Prop := ∀ y ∈ L.take i, (mineB y.1 x && y.1.at_ == x.at_) = false
theorem NoOld.next {L : List (RP × Value)} {x : RP} {i : Nat} {y : RP × Value} (h : L[i]? = some y) (hn : NoOld L x i) (hy : (mineB y.1 x && y.1.at_ == x.at_) = false) : NoOld L x (i + 1) := by
  intro z hz
  rw [List.take_add_one, h, List.mem_append] at hz
  rcases hz with hz | hz
  · exact hn z hz
  · simp at hz
    subst hz
    exact hy
/-- The bytes of the parts at place j, among the first i. -/
def atJ (R : List RP) (x : RP) (j : Int) : List Int := R.flatMap fun q => if mineB q x && q.at_ == j then q.b else []
def outJ (R : List RP) (x : RP) (j : Nat) : List Int := (List.range j).flatMap fun (i : Nat) => atJ R x (i : Int)
def outI (L : List (RP × Value)) (x : RP) (j i : Nat) : List Int := outJ (L.map (·.1)) x j ++ atJ ((L.take i).map (·.1)) x (j : Int)
theorem outI_zero (L : List (RP × Value)) (x : RP) (j : Nat) : outI L x j 0 = outJ (L.map (·.1)) x j := by unfold outI atJ; simp
theorem outI_next {L : List (RP × Value)} {x : RP} {j i : Nat} {y : RP × Value} (h : L[i]? = some y) : outI L x j (i + 1) = outI L x j i ++ if (mineB y.1 x && y.1.at_ == (j : Int)) = true then y.1.b else [] := by
  unfold outI atJ
  rw [List.take_add_one, h, List.map_append, List.flatMap_append, List.append_assoc]
  simp
theorem outI_skip {L : List (RP × Value)} {x : RP} {j i : Nat} {y : RP × Value} (h : L[i]? = some y) (hn : (mineB y.1 x && y.1.at_ == (j : Int)) = false) : outI L x j (i + 1) = outI L x j i := by rw [outI_next h, if_neg (by rw [hn]; decide), List.append_nil]
theorem outI_take {L : List (RP × Value)} {x : RP} {j i : Nat} {y : RP × Value} (h : L[i]? = some y) (hn : (mineB y.1 x && y.1.at_ == (j : Int)) = true) : outI L x j (i + 1) = outI L x j i ++ y.1.b := by rw [outI_next h, if_pos hn]
theorem outI_all (L : List (RP × Value)) (x : RP) (j : Nat) : outI L x j L.length = outJ (L.map (·.1)) x (j + 1) := by
  unfold outI outJ
  rw [List.take_length, List.range_succ, List.flatMap_append]
  simp
theorem outJ_all (R : List RP) (x : RP) : outJ R x x.n.toNat = outR R x := rfl
theorem atJ_len {R : List RP} (h : ∀ q ∈ R, q.b.length ≤ 300) (x : RP) (j : Int) : (atJ R x j).length ≤ 300 * R.length := by
  unfold atJ
  induction R with
  | nil => simp
  | cons q R ih =>
    rw [List.flatMap_cons, List.length_append, List.length_cons]
    have h1 := ih (fun q hq => h q (List.mem_cons_of_mem _ hq))
    have h2 : (if (mineB q x && q.at_ == j) = true then q.b else []).length ≤ 300 := by
      split
      · exact h q (by simp)
      · simp
    omega
theorem outJ_len {R : List RP} (h : ∀ q ∈ R, q.b.length ≤ 300) (x : RP) (j : Nat) : (outJ R x j).length ≤ 300 * R.length * j := by
  unfold outJ
  induction j with
  | zero => simp
  | succ j ih =>
    rw [List.range_succ, List.flatMap_append, List.length_append]
    have h1 := atJ_len h x (j : Int)
    simp only [List.flatMap_cons, List.flatMap_nil, List.append_nil]
    rw [Nat.mul_succ]
    omega
theorem outI_len {W : World} {L : List (RP × Value)} (h : ∀ y ∈ L, RPok W y) (hl : L.length ≤ 200) (x : RP) {j : Nat} (hj : j < 14) (i : Nat) {m : Nat} (hm : m ≤ 300) : (outI L x j i).length + m ≤ 1000000 := by
  unfold outI
  rw [List.length_append]
  have hh : ∀ q ∈ L.map (·.1), q.b.length ≤ 300 := by
    intro q hq
    obtain ⟨y, hy, rfl⟩ := List.mem_map.1 hq
    exact (h y hy).len
  have h1 := outJ_len hh x j
  have h2 := atJ_len (R := (L.take i).map (·.1)) (fun q hq => by
    obtain ⟨y, hy, rfl⟩ := List.mem_map.1 hq
    exact (h y (List.mem_of_mem_take hy)).len) x (j : Int)
  rw [List.length_map] at h1 h2
  have h3 := List.length_take_le i L
  have h4 : (L.take i).length ≤ L.length := by rw [List.length_take]; exact Nat.min_le_right _ _
  have h5 : 300 * L.length * j ≤ 60000 * 13 := Nat.mul_le_mul (by omega) (by omega)
  omega
/-- The reference's answer, by what was counted. -/
theorem refA_go {L L1 : List (RP × Value)} {bs : List Int} {x : RP} {z q : Nat} {dd : Bool} (hok : okPart bs = true) (hx : x = rpOf bs) (hno : NoOld L x L.length) (hz : cntTo L x L.length = z) (hq : waitsR (L.map (·.1)) = q) (hdd : (decide (z = 0) && decide (q = 4)) = dd)
    (hL1 : L1.map (·.1) = if dd = true then dropR (L.map (·.1)) ((L.map (·.1)).headD x) else L.map (·.1)) :
    refA (L.map (·.1)) bs = if (z : Int) + 1 < x.n then (L1.map (·.1) ++ [x], ⟨none, 0⟩) else (dropR (L1.map (·.1) ++ [x]) x, ⟨some (outR (L1.map (·.1) ++ [x]) x), 0⟩) := by
  have hany : ¬ ((L.map (·.1)).any fun q => mineB q (rpOf bs) && q.at_ == (rpOf bs).at_) = true := by
    rw [List.any_eq_true]
    rintro ⟨p, hp, he⟩
    obtain ⟨y, hy, rfl⟩ := List.mem_map.1 hp
    have := hno y (by rw [List.take_length]; exact hy)
    rw [hx] at this
    rw [this] at he
    cases he
  have hc : ((L.map (·.1)).countP fun q => mineB q (rpOf bs)) = z := by
    rw [← hz, ← hx]
    unfold cntTo
    rw [List.take_length, List.countP_map]
    rfl
  have hr : (if z = 0 ∧ q = 4 then dropR (L.map (·.1)) ((L.map (·.1)).headD (rpOf bs)) else L.map (·.1)) = L1.map (·.1) := by
    rw [hL1, ← hdd, ← hx]
    by_cases h1 : z = 0
    · by_cases h2 : q = 4
      · rw [if_pos ⟨h1, h2⟩, if_pos (by simp [h1, h2])]
      · rw [if_neg (fun h => h2 h.2), if_neg (by simp [h2])]
    · rw [if_neg (fun h => h1 h.1), if_neg (by simp [h1])]
  unfold refA
  rw [if_neg (by rw [hok]; decide), if_neg hany]
  simp only [hc, hq, hr]
  rw [← hx]
theorem first_pos {L : List (RP × Value)} {q z : Nat} (hq : waitsR (L.map (·.1)) = q) (hdd : (decide (z = 0) && decide (q = 4)) = true) : ∃ y, L[0]? = some y ∧ 0 < L.length := by
  rw [Bool.and_eq_true, decide_eq_true_eq, decide_eq_true_eq] at hdd
  cases L with
  | nil => rw [hdd.2] at hq; simp [waitsR, keysOf] at hq
  | cons y L => exact ⟨y, rfl, Nat.succ_pos _⟩
theorem head_of_first {L : List (RP × Value)} {y : RP × Value} (h : L[0]? = some y) (x : RP) : (L.map (·.1)).headD x = y.1 := by
  cases L with
  | nil => cases h
  | cons z L => simp at h; subst h; rfl
theorem keepR_le (p : RP) (L : List (RP × Value)) : (keepR p L).length ≤ L.length := List.length_filter_le _ _
theorem snoc_ok {W : World} {L : List (RP × Value)} {y : RP × Value} (h : ∀ x ∈ L, RPok W x) (hy : RPok W y) : ∀ x ∈ L ++ [y], RPok W x := by
  intro x hx
  rcases List.mem_append.1 hx with hx | hx
  · exact h x hx
  · rw [List.mem_singleton] at hx; subst hx; exact hy
theorem n_nat {W : World} {x : RP} {v : Value} (h : RPok W (x, v)) : ∃ m : Nat, x.n = (m : Int) ∧ x.n.toNat = m ∧ m ≤ 14 := ⟨x.n.toNat, by have := h.n0; dsimp only at this; omega, rfl, by have := h.n1; dsimp only at this; omega⟩
theorem RA.belowed {W w w1 : World} {b : Nat} {L : List (RP × Value)} {F : List Ent} (h : RA W w b L F) (hb : Below w.heap.size w w1) : RA W w1 b L F := ⟨h.1, h.2.1, by obtain ⟨v, hv⟩ := h.2.2; exact ⟨v, Holds.belowed hv hb⟩⟩
theorem zn_cases {z m : Nat} : ((z : Int) + 1 < (m : Int)) ↔ z + 1 < m := by omega

end Go.Proofs.Ytpnnalkihcemhaa.Frag
