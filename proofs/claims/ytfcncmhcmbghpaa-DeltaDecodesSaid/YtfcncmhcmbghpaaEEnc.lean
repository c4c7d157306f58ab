/- A delta made, by the program. -/
import Derived.Test.YtfcncmhcmbghpaaEOn
import Derived.Test.YtfcncmhcmbghpaaEPut
import Derived.Deep.RegionHeld3
set_option linter.unusedVariables false
set_option linter.unusedSimpArgs false
namespace Go.Proofs.Ytfcncmhcmbghpaa.Ents
open Go.Sort Go.RowKit Go.Proofs.Ytfcncmhcmbghpaa.Mem Go.Proofs.Ytfcncmhcmbghpaa.Open Go.Proofs.Ytfcncmhcmbghpaa.Num Go.Proofs.Ytfcncmhcmbghpaa.Step Go.Proofs.Ytfcncmhcmbghpaa.Wr Go.Proofs.Ytfcncmhcmbghpaa.Bits

noncomputable def thereB (l : List Enty) (i : Nat) : List Bool := bitsOf (if find l ((i : Int) + 1) = -1 then 0 else 1) 1
noncomputable def eachB (base : List Enty) (e : Enty) : List Bool := if okB (onE base e.id) e = true then putB (onE base e.id) e else []
noncomputable def encB (base l : List Enty) : List Bool := (List.range 16).flatMap (thereB l) ++ l.flatMap (eachB base)
theorem there_len (l : List Enty) (k : Nat) : ((List.range k).flatMap (thereB l)).length = k := by
  induction k with
  | zero => rfl
  | succ k ih => rw [range_flat, List.length_append, ih]; unfold thereB; rw [bitsOf_length]
theorem putB_len (bs e : Enty) : (putB bs e).length ≤ 486 := by
  unfold putB
  rw [List.length_append, mask_len]
  have := diff_len bs e 6
  omega
theorem each_len (base l : List Enty) : (l.flatMap (eachB base)).length ≤ 486 * l.length := by
  induction l with
  | nil => simp
  | cons e l ih =>
    rw [List.flatMap_cons, List.length_append, List.length_cons]
    have : (eachB base e).length ≤ 486 := by
      unfold eachB
      split
      · exact putB_len _ _
      · simp
    omega
theorem take_each (base l : List Enty) (k : Nat) (h : k < l.length) : (l.take (k + 1)).flatMap (eachB base) = (l.take k).flatMap (eachB base) ++ eachB base (el l k) := by
  rw [List.take_add_one, el_get l k h]
  simp
theorem take_le (base l : List Enty) (k : Nat) (h : l.length ≤ 40) : ((l.take k).flatMap (eachB base)).length ≤ 19440 := by
  have := each_len base (l.take k)
  rw [List.length_take] at this
  omega

theorem HasW.cell2 {W : World} {B : Nat} {w : World} {b c : Nat} {e t : TypeId} {L : List Bool} {F : List Ent} {cs : List Value} (h : HasW W B w b e L (.st c cs t :: F)) (k : Nat) {v : Value} (hv : cs[k]? = some v) : w.cell? ⟨c, k, none⟩ = some v := by
  obtain ⟨_, h⟩ := h
  exact h.up2.cell k hv
theorem HasW.drew {W : World} {B : Nat} {w : World} {b : Nat} {e : TypeId} {L : List Bool} {F : List Ent} (h : HasW W B w b e L F) : HasW W B w.drew b e L F := by
  obtain ⟨v, h⟩ := h
  exact ⟨v, h.drew⟩
theorem HasW.bel {W : World} {B : Nat} {w : World} {b : Nat} {e : TypeId} {L : List Bool} {F : List Ent} (h : HasW W B w b e L F) : Below B W w := by
  obtain ⟨v, h⟩ := h
  exact h.below

set_option maxHeartbeats 2000000 in
theorem eenc (w : World) (vb vl : Value) (base l : List Enty) (hvb : RdL w vb 8 (base.map Enty.cells)) (hvl : RdL w vl 8 (l.map Enty.cells)) (hb : listB base = true) (hl : listB l = true) (h40 : l.length ≤ 40) :
    Calls Try.prog 30 #[vb, vl] w fun e' w' => ∃ v', e' = .returned (.tuple #[v', .int .i64 0]) ∧ Holds w w.heap.size w' [.rw v' 5 1 (nby (encB base l)) (Go.Proofs.YtfcncmhcmbghpaaW.PrintWords.nums .u8 (pack (encB base l)))] := by
  have HVB := Lib.hid hvb
  have HVL := Lib.hid hvl
  have h1 := elist w vb base hvb
  rw [hb] at h1
  have hl2 : ∀ w', Below w.heap.size w w' → Calls Try.prog 16 #[vl] w' fun e' w'' => e' = .returned (.bool true) ∧ Below w'.heap.size w' w'' := fun w' hb' => by
    have := elist w' vl l (RdL.below HVL.out hb')
    rwa [hl] at this
  have H1 := Lib.hid h1
  have HL2 := Lib.hid hl2
  obtain ⟨A, c, rfl, hc, hm, hr⟩ := cells_at hvl
  have HR := Lib.hid hr
  clear hvb hvl h1 hl2 hr hm hb hl
  go_enter Try.func30, Try.ntmps30
  go_wp2_with fail
  refine H1.out.mono ?_
  rintro e' w1 ⟨rfl, h2⟩
  go_wp2_with fail
  refine (HL2.out w1 h2).mono ?_
  rintro e' w2 ⟨rfl, h3⟩
  have h4 := fresh ((Holds.start w).same (w' := w1) ⟨h2.os, h2.tape, h2.output, h2.size, fun k hk _ => h2.block k hk⟩ |> fun h => Holds.belowed h h3) 37
  have H4 := Lib.hid h4
  clear h2 h3 h4 H1 HL2
  go_wp2_with fail
  generalize w2.alloc (.cells #[.slice none 0 0, .int .i64 0] 37) = w3 at *
  generalize w2.heap.size = b1 at *
  go_loopw [7] (fun i wr => ∃ k : Nat, 1 ≤ k ∧ k ≤ 17 ∧ i = .int .i64 k ∧ HasW w w.heap.size wr b1 37 ((List.range (k - 1)).flatMap (thereB l)) [])
    (fun i _ => 17 - (intOf i).toNat)
  case atStart => exact ⟨1, by omega, by omega, rfl, H4.out⟩
  case round =>
    obtain ⟨k, hk1, hk, rfl, hH⟩ := hrel
    clear H4
    by_cases hkn : k < 17
    · have HTS := Lib.hid (succ_len k (show k < maxLen by unfold maxLen; omega))
      have k16 : (k : Int) ≤ 16 := by omega
      have hbel : Below w.heap.size w wr := by obtain ⟨_, h⟩ := hH; exact h.below
      have hfd := efind wr _ l (k : Int) (RdL.below HVL.out hbel)
      have htl := there_len l (k - 1)
      have hth : thereB l (k - 1) = bitsOf (if find l (k : Int) = -1 then 0 else 1) 1 := by unfold thereB; rw [show ((k - 1 : Nat) : Int) + 1 = (k : Int) by omega]
      obtain ⟨fd, hfdv⟩ : ∃ fd, find l (k : Int) = fd := ⟨_, rfl⟩
      rw [hfdv] at hfd hth
      have HFD := Lib.hid hfd
      have HTH := Lib.hid hth
      have HH := Lib.hid hH
      clear hfd hth hH hbel hfdv
      by_cases hq : fd = -1
      · have tq : (fd != -1) = false := by rw [hq]; rfl
        have HQ := Lib.hid hq
        clear hq
        go_wp2_with fail
        refine HFD.out.mono ?_
        rintro e' w5 ⟨rfl, h5⟩
        have hp := put w w.heap.size w5 b1 37 _ [] 0 1 (HasW.belowed HH.out h5) (by decide) (by decide) (by decide) (by decide) (by omega)
        have HP := Lib.hid hp
        clear hp h5 HH HFD
        go_wp2_with fail
        refine HP.out.mono ?_
        rintro e' w6 ⟨rfl, h6⟩
        have H6 := Lib.hid h6
        clear h6 HP
        go_wp2_with fail
        try rw [HTS.out]
        refine ⟨⟨k + 1, by omega, by omega, cast_succ k, ?_⟩, succ_less hkn⟩
        have h7 := H6.out
        rw [show k + 1 - 1 = k - 1 + 1 by omega, range_flat, HTH.out, if_pos HQ.out]
        exact h7
      · have tq : (fd != -1) = true := by simpa using hq
        have HQ := Lib.hid hq
        clear hq
        go_wp2_with fail
        refine HFD.out.mono ?_
        rintro e' w5 ⟨rfl, h5⟩
        have hp := put w w.heap.size w5 b1 37 _ [] 1 1 (HasW.belowed HH.out h5) (by decide) (by decide) (by decide) (by decide) (by omega)
        have HP := Lib.hid hp
        clear hp h5 HH HFD
        go_wp2_with fail
        refine HP.out.mono ?_
        rintro e' w6 ⟨rfl, h6⟩
        have H6 := Lib.hid h6
        clear h6 HP
        go_wp2_with fail
        try rw [HTS.out]
        refine ⟨⟨k + 1, by omega, by omega, cast_succ k, ?_⟩, succ_less hkn⟩
        have h7 := H6.out
        rw [show k + 1 - 1 = k - 1 + 1 by omega, range_flat, HTH.out, if_neg HQ.out]
        exact h7
    · obtain rfl : k = 17 := by omega
      have H7 := Lib.hid hH
      clear hH
      rw [show ((17 : Nat) : Int) = 17 from rfl]
      go_wp2_with fail
      go_loopw [34] (fun i wr => ∃ k : Nat, k ≤ l.length ∧ i = .int .i64 k ∧ HasW w w.heap.size wr b1 37 ((List.range 16).flatMap (thereB l) ++ (l.take k).flatMap (eachB base)) [])
        (fun i _ => l.length - (intOf i).toNat)
      case atStart => exact ⟨0, Nat.zero_le _, rfl, by simpa using H7.out⟩
      case round =>
        obtain ⟨k, hk, rfl, hH⟩ := hrel
        clear H7
        have htl := there_len l 16
        have hel := take_le base l k h40
        by_cases hkn : k < l.length
        · have HTS := Lib.hid (succ_len k (show k < maxLen by unfold maxLen; omega))
          obtain ⟨b, off, rfl, hlt, c0, c1, c2, c3, c4, c5, c6, c7⟩ := HR.out k hkn
          obtain ⟨v1, h5⟩ := hH
          have e0 := (h5.below.cell (p := ⟨b, off + k * 8, none⟩) hlt).trans c0
          have e1 := (h5.below.cell (p := ⟨b, off + k * 8 + 1, none⟩) hlt).trans c1
          have e2 := (h5.below.cell (p := ⟨b, off + k * 8 + 2, none⟩) hlt).trans c2
          have e3 := (h5.below.cell (p := ⟨b, off + k * 8 + 3, none⟩) hlt).trans c3
          have e4 := (h5.below.cell (p := ⟨b, off + k * 8 + 4, none⟩) hlt).trans c4
          have e5 := (h5.below.cell (p := ⟨b, off + k * 8 + 5, none⟩) hlt).trans c5
          have e6 := (h5.below.cell (p := ⟨b, off + k * 8 + 6, none⟩) hlt).trans c6
          have e7 := (h5.below.cell (p := ⟨b, off + k * 8 + 7, none⟩) hlt).trans c7
          have k0 : (0 : Int) ≤ (k : Int) := by omega
          have k1 : (k : Int) < (l.length : Int) := by omega
          have h6 := h5.alloc [.int .i64 (el l k).id, .int .i64 (el l k).kind, .int .i64 (el l k).x, .int .i64 (el l k).y, .int .i64 (el l k).vx, .int .i64 (el l k).vy, .int .i64 (el l k).hp, .int .i64 (el l k).wt] 29
          have hx : HasW w w.heap.size _ b1 37 ((List.range 16).flatMap (thereB l) ++ (l.take k).flatMap (eachB base)) [.st wr.heap.size [.int .i64 (el l k).id, .int .i64 (el l k).kind, .int .i64 (el l k).x, .int .i64 (el l k).y, .int .i64 (el l k).vx, .int .i64 (el l k).vy, .int .i64 (el l k).hp, .int .i64 (el l k).wt] 29] := ⟨v1, h6.up2.up2⟩
          have HX := Lib.hid hx
          clear c0 c1 c2 c3 c4 c5 c6 c7 h5 h6 hx
          obtain ⟨LL, hLL⟩ : ∃ LL, (List.range 16).flatMap (thereB l) ++ (l.take k).flatMap (eachB base) = LL := ⟨_, rfl⟩
          have hlen : LL.length + 1000 ≤ 1000000000 := by rw [← hLL, List.length_append]; omega
          rw [hLL] at HX
          have HLL := Lib.hid hLL
          clear hLL
          go_wp2_with fail
          clear e0 e1 e2 e3 e4 e5 e6 e7
          generalize wr.alloc (.cells #[.int .i64 (el l k).id, .int .i64 (el l k).kind, .int .i64 (el l k).x, .int .i64 (el l k).y, .int .i64 (el l k).vx, .int .i64 (el l k).vy, .int .i64 (el l k).hp, .int .i64 (el l k).wt] 29) = wq at *
          generalize wr.heap.size = g at *
          have hon : ∀ wx, HasW w w.heap.size wx b1 37 LL [.st g [.int .i64 (el l k).id, .int .i64 (el l k).kind, .int .i64 (el l k).x, .int .i64 (el l k).y, .int .i64 (el l k).vx, .int .i64 (el l k).vy, .int .i64 (el l k).hp, .int .i64 (el l k).wt] 29] → Calls Try.prog 53 #[vb, .int .i64 (el l k).id] wx fun e' w'' => e' = .returned (.agg #[.int .i64 (onE base (el l k).id).id, .int .i64 (onE base (el l k).id).kind, .int .i64 (onE base (el l k).id).x, .int .i64 (onE base (el l k).id).y, .int .i64 (onE base (el l k).id).vx, .int .i64 (onE base (el l k).id).vy, .int .i64 (onE base (el l k).id).hp, .int .i64 (onE base (el l k).id).wt]) ∧ HasW w w.heap.size w'' b1 37 LL [.st g [.int .i64 (el l k).id, .int .i64 (el l k).kind, .int .i64 (el l k).x, .int .i64 (el l k).y, .int .i64 (el l k).vx, .int .i64 (el l k).vy, .int .i64 (el l k).hp, .int .i64 (el l k).wt] 29] := fun wx h =>
            (eon wx vb base (el l k).id (RdL.below HVB.out (HasW.bel h))).mono fun _ _ hh => ⟨hh.1, HasW.belowed h hh.2⟩
          have hpt : ∀ wx, HasW w w.heap.size wx b1 37 LL [.st g [.int .i64 (el l k).id, .int .i64 (el l k).kind, .int .i64 (el l k).x, .int .i64 (el l k).y, .int .i64 (el l k).vx, .int .i64 (el l k).vy, .int .i64 (el l k).hp, .int .i64 (el l k).wt] 29] → Calls Try.prog 20 #[.pointer (some ⟨b1, 0, none⟩), .agg #[.int .i64 (onE base (el l k).id).id, .int .i64 (onE base (el l k).id).kind, .int .i64 (onE base (el l k).id).x, .int .i64 (onE base (el l k).id).y, .int .i64 (onE base (el l k).id).vx, .int .i64 (onE base (el l k).id).vy, .int .i64 (onE base (el l k).id).hp, .int .i64 (onE base (el l k).id).wt], .agg #[.int .i64 (el l k).id, .int .i64 (el l k).kind, .int .i64 (el l k).x, .int .i64 (el l k).y, .int .i64 (el l k).vx, .int .i64 (el l k).vy, .int .i64 (el l k).hp, .int .i64 (el l k).wt]] wx fun e' w'' => e' = .returned (.bool (okB (onE base (el l k).id) (el l k))) ∧ HasW w w.heap.size w'' b1 37 (LL ++ eachB base (el l k)) [.st g [.int .i64 (el l k).id, .int .i64 (el l k).kind, .int .i64 (el l k).x, .int .i64 (el l k).y, .int .i64 (el l k).vx, .int .i64 (el l k).vy, .int .i64 (el l k).hp, .int .i64 (el l k).wt] 29] := fun wx h =>
            eput w wx b1 37 LL _ (onE base (el l k).id) (el l k) h hlen
          have HON := Lib.hid hon
          have HPT := Lib.hid hpt
          have HX := Lib.hid (HasW.drew HX.out)
          clear hon hpt
          go_region_held3 (fun w' => w'.cell? ⟨g, 0, none⟩ = some (.int .i64 (el l k).id) ∧ w'.cell? ⟨g, 1, none⟩ = some (.int .i64 (el l k).kind) ∧ w'.cell? ⟨g, 2, none⟩ = some (.int .i64 (el l k).x) ∧ w'.cell? ⟨g, 3, none⟩ = some (.int .i64 (el l k).y) ∧ w'.cell? ⟨g, 4, none⟩ = some (.int .i64 (el l k).vx) ∧ w'.cell? ⟨g, 5, none⟩ = some (.int .i64 (el l k).vy) ∧ w'.cell? ⟨g, 6, none⟩ = some (.int .i64 (el l k).hp) ∧ w'.cell? ⟨g, 7, none⟩ = some (.int .i64 (el l k).wt))
            (exact ⟨HasW.cell2 HX.out 0 rfl, HasW.cell2 HX.out 1 rfl, HasW.cell2 HX.out 2 rfl, HasW.cell2 HX.out 3 rfl, HasW.cell2 HX.out 4 rfl, HasW.cell2 HX.out 5 rfl, HasW.cell2 HX.out 6 rfl, HasW.cell2 HX.out 7 rfl⟩)
            (first | (go_at_call 53; with_reducible refine (HON.out _ HX.out).mono ?_; rintro e' wn ⟨rfl, hx⟩; have HX := Lib.hid hx; clear hx) | (go_at_call 20; with_reducible refine (HPT.out _ HX.out).mono ?_; rintro e' wn ⟨rfl, hx⟩; have HX := Lib.hid hx; clear hx))
          all_goals
            go_wp2_with fail
            try rw [HTS.out]
            refine ⟨⟨k + 1, by omega, cast_succ k, ?_⟩, succ_less hkn⟩
            obtain ⟨v9, h9⟩ := HX.out
            rw [take_each base l k hkn, ← List.append_assoc, HLL.out]
            exact ⟨v9, h9.up2.tail⟩
        · obtain rfl : k = l.length := by omega
          rw [List.take_of_length_le (Nat.le_refl _)] at hH hel
          have hb := Wr.bytes w w.heap.size wr b1 37 (encB base l) [] hH (by unfold encB; rw [List.length_append]; omega)
          have HB := Lib.hid hb
          clear hb hH
          go_wp2_with fail
          refine HB.out.mono ?_
          rintro e' w5 ⟨v', rfl, v6, h6⟩
          have H6 := Lib.hid h6.tail.tail
          clear h6 HB
          go_wp2_with fail
          refine bodyPost_ret (results_tmp2 rfl _ _ _) rfl ?_
          exact ⟨v', rfl, H6.out⟩

end Go.Proofs.Ytfcncmhcmbghpaa.Ents
