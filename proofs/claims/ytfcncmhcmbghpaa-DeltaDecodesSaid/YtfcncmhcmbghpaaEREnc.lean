/- A delta made, by the reference. -/
import Derived.Test.YtfcncmhcmbghpaaEEnc
import Derived.Test.YtfcncmhcmbghpaaEROn
import Derived.Test.YtfcncmhcmbghpaaERList
import Derived.Test.YtfcncmhcmbghpaaERPut
set_option linter.unusedVariables false
set_option linter.unusedSimpArgs false
namespace Go.Proofs.Ytfcncmhcmbghpaa.Ents
open Go.Sort Go.RowKit Go.Proofs.Ytfcncmhcmbghpaa.Mem Go.Proofs.Ytfcncmhcmbghpaa.Open Go.Proofs.Ytfcncmhcmbghpaa.Num Go.Proofs.Ytfcncmhcmbghpaa.Step Go.Proofs.Ytfcncmhcmbghpaa.Wr Go.Proofs.Ytfcncmhcmbghpaa.Bits

theorem HasB.bel {W : World} {B : Nat} {w : World} {b : Nat} {e : TypeId} {L : List Bool} {F : List Ent} (h : HasB W B w b e L F) : Below B W w := by
  obtain ⟨v, h⟩ := h
  exact h.below

set_option maxHeartbeats 2000000 in
theorem erenc (w : World) (vb vl : Value) (base l : List Enty) (hvb : RdL w vb 8 (base.map Enty.cells)) (hvl : RdL w vl 8 (l.map Enty.cells)) (hb : listB base = true) (hl : listB l = true) (h40 : l.length ≤ 40) :
    Calls Try.prog 31 #[vb, vl] w fun e' w' => ∃ v', e' = .returned (.tuple #[v', .int .i64 0]) ∧ Holds w w.heap.size w' [.rw v' 5 1 (nby (encB base l)) (Go.Proofs.YtfcncmhcmbghpaaW.PrintWords.nums .u8 (pack (encB base l)))] := by
  have HVB := Lib.hid hvb
  have HVL := Lib.hid hvl
  have h1 := erlist w vb base hvb
  rw [hb] at h1
  have hl2 : ∀ w', Below w.heap.size w w' → Calls Try.prog 17 #[vl] w' fun e' w'' => e' = .returned (.bool true) ∧ Below w'.heap.size w' w'' := fun w' hb' => by
    have := erlist w' vl l (RdL.below HVL.out hb')
    rwa [hl] at this
  have H1 := Lib.hid h1
  have HL2 := Lib.hid hl2
  obtain ⟨A, c, rfl, hc, hm, hr⟩ := cells_at hvl
  have HR := Lib.hid hr
  clear hvb hvl h1 hl2 hr hm hb hl
  go_enter Try.func31, Try.ntmps31
  go_wp2_with fail
  refine H1.out.mono ?_
  rintro e' w1 ⟨rfl, h2⟩
  go_wp2_with fail
  refine (HL2.out w1 h2).mono ?_
  rintro e' w2 ⟨rfl, h3⟩
  have h4 := rfresh ((Holds.start w).same (w' := w1) ⟨h2.os, h2.tape, h2.output, h2.size, fun k hk _ => h2.block k hk⟩ |> fun h => Holds.belowed h h3) 44
  have H4 := Lib.hid h4
  clear h2 h3 h4 H1 HL2
  go_wp2_with fail
  generalize w2.alloc (.cells #[.slice none 0 0] 44) = w3 at *
  generalize w2.heap.size = b1 at *
  go_loopw [7] (fun i wr => ∃ k : Nat, 1 ≤ k ∧ k ≤ 17 ∧ i = .int .i64 k ∧ HasB w w.heap.size wr b1 44 ((List.range (k - 1)).flatMap (thereB l)) [])
    (fun i _ => 17 - (intOf i).toNat)
  case atStart => exact ⟨1, by omega, by omega, rfl, H4.out⟩
  case round =>
    obtain ⟨k, hk1, hk, rfl, hH⟩ := hrel
    clear H4
    by_cases hkn : k < 17
    · have HTS := Lib.hid (succ_len k (show k < maxLen by unfold maxLen; omega))
      have k16 : (k : Int) ≤ 16 := by omega
      have hbel : Below w.heap.size w wr := by obtain ⟨_, h⟩ := hH; exact h.below
      have hfd := erfind wr _ l (k : Int) (RdL.below HVL.out hbel)
      have htl := there_len l (k - 1)
      have hth : thereB l (k - 1) = bitsOf (if find l (k : Int) = -1 then 0 else 1) 1 := by unfold thereB; rw [show ((k - 1 : Nat) : Int) + 1 = (k : Int) by omega]
      have hfc : find l (k : Int) = -1 ∨ 0 ≤ find l (k : Int) := by rcases find_cases l (k : Int) with h | ⟨_, _, h⟩ <;> omega
      obtain ⟨fd, hfdv⟩ : ∃ fd, find l (k : Int) = fd := ⟨_, rfl⟩
      rw [hfdv] at hfd hth hfc
      have HFD := Lib.hid hfd
      have HTH := Lib.hid hth
      have HH := Lib.hid hH
      clear hfd hth hH hbel hfdv
      by_cases hq : fd = -1
      · have tq : decide (0 ≤ fd) = false := by rw [hq]; rfl
        have HQ := Lib.hid hq
        clear hq
        go_wp2_with fail
        refine HFD.out.mono ?_
        rintro e' w5 ⟨rfl, rfl⟩
        have hp := rput w w.heap.size wr b1 44 _ [] 0 1 HH.out (by decide) (by decide) (by decide) (by decide) (by omega)
        have HP := Lib.hid hp
        clear hp HH HFD
        go_wp2_with fail
        refine HP.out.mono ?_
        rintro e' w6 ⟨rfl, h6⟩
        have H6 := Lib.hid h6
        clear h6 HP
        go_wp2_with fail
        try rw [HTS.out]
        refine ⟨⟨k + 1, by omega, by omega, cast_succ k, ?_⟩, succ_less hkn⟩
        have h7 := H6.out
        rw [show k + 1 - 1 = k - 1 + 1 by omega, range_flat, HTH.out, if_pos HQ.out]
        exact h7
      · have tq : decide (0 ≤ fd) = true := by simp; omega
        have HQ := Lib.hid hq
        clear hq
        go_wp2_with fail
        refine HFD.out.mono ?_
        rintro e' w5 ⟨rfl, rfl⟩
        have hp := rput w w.heap.size wr b1 44 _ [] 1 1 HH.out (by decide) (by decide) (by decide) (by decide) (by omega)
        have HP := Lib.hid hp
        clear hp HH HFD
        go_wp2_with fail
        refine HP.out.mono ?_
        rintro e' w6 ⟨rfl, h6⟩
        have H6 := Lib.hid h6
        clear h6 HP
        go_wp2_with fail
        try rw [HTS.out]
        refine ⟨⟨k + 1, by omega, by omega, cast_succ k, ?_⟩, succ_less hkn⟩
        have h7 := H6.out
        rw [show k + 1 - 1 = k - 1 + 1 by omega, range_flat, HTH.out, if_neg HQ.out]
        exact h7
    · obtain rfl : k = 17 := by omega
      have H7 := Lib.hid hH
      clear hH
      rw [show ((17 : Nat) : Int) = 17 from rfl]
      go_wp2_with fail
      go_loopw [9] (fun i wr => ∃ k : Nat, k ≤ l.length ∧ i = .int .i64 k ∧ HasB w w.heap.size wr b1 44 ((List.range 16).flatMap (thereB l) ++ (l.take k).flatMap (eachB base)) [])
        (fun i _ => l.length - (intOf i).toNat)
      case atStart => exact ⟨0, Nat.zero_le _, rfl, by simpa using H7.out⟩
      case round =>
        obtain ⟨k, hk, rfl, hH⟩ := hrel
        clear H7
        have htl := there_len l 16
        have hel := take_le base l k h40
        by_cases hkn : k < l.length
        · have HTS := Lib.hid (succ_len k (show k < maxLen by unfold maxLen; omega))
          obtain ⟨b, off, rfl, hlt, c0, c1, c2, c3, c4, c5, c6, c7⟩ := HR.out k hkn
          have k0 : (0 : Int) ≤ (k : Int) := by omega
          have k1 : (k : Int) < (l.length : Int) := by omega
          obtain ⟨LL, hLL⟩ : ∃ LL, (List.range 16).flatMap (thereB l) ++ (l.take k).flatMap (eachB base) = LL := ⟨_, rfl⟩
          have hlen : LL.length + 1000 ≤ 1000000000 := by rw [← hLL, List.length_append]; omega
          rw [hLL] at hH
          have HLL := Lib.hid hLL
          have hon : ∀ wx, HasB w w.heap.size wx b1 44 LL [] → Calls Try.prog 54 #[vb, .int .i64 (el l k).id] wx fun e' w'' => e' = .returned (.agg #[.int .i64 (onE base (el l k).id).id, .int .i64 (onE base (el l k).id).kind, .int .i64 (onE base (el l k).id).x, .int .i64 (onE base (el l k).id).y, .int .i64 (onE base (el l k).id).vx, .int .i64 (onE base (el l k).id).vy, .int .i64 (onE base (el l k).id).hp, .int .i64 (onE base (el l k).id).wt]) ∧ HasB w w.heap.size w'' b1 44 LL [] := fun wx h =>
            (eron wx vb base (el l k).id (RdL.below HVB.out (HasB.bel h))).mono fun _ _ hh => ⟨hh.1, HasB.belowed h hh.2⟩
          have hpt : ∀ wx, HasB w w.heap.size wx b1 44 LL [] → Calls Try.prog 22 #[.pointer (some ⟨b1, 0, none⟩), .agg #[.int .i64 (onE base (el l k).id).id, .int .i64 (onE base (el l k).id).kind, .int .i64 (onE base (el l k).id).x, .int .i64 (onE base (el l k).id).y, .int .i64 (onE base (el l k).id).vx, .int .i64 (onE base (el l k).id).vy, .int .i64 (onE base (el l k).id).hp, .int .i64 (onE base (el l k).id).wt], .agg #[.int .i64 (el l k).id, .int .i64 (el l k).kind, .int .i64 (el l k).x, .int .i64 (el l k).y, .int .i64 (el l k).vx, .int .i64 (el l k).vy, .int .i64 (el l k).hp, .int .i64 (el l k).wt]] wx fun e' w'' => e' = .returned (.bool (okB (onE base (el l k).id) (el l k))) ∧ HasB w w.heap.size w'' b1 44 (LL ++ eachB base (el l k)) [] := fun wx h =>
            erput w wx b1 44 LL _ (onE base (el l k).id) (el l k) h hlen
          have HON := Lib.hid hon
          have HPT := Lib.hid hpt
          have HX := Lib.hid (HasB.drew hH)
          clear hon hpt hLL hH
          go_wp2_with fail
          go_region_held3 (fun w' => w'.cell? ⟨b, off + k * 8, none⟩ = some (.int .i64 (el l k).id) ∧ w'.cell? ⟨b, off + k * 8 + 1, none⟩ = some (.int .i64 (el l k).kind) ∧ w'.cell? ⟨b, off + k * 8 + 2, none⟩ = some (.int .i64 (el l k).x) ∧ w'.cell? ⟨b, off + k * 8 + 3, none⟩ = some (.int .i64 (el l k).y) ∧ w'.cell? ⟨b, off + k * 8 + 4, none⟩ = some (.int .i64 (el l k).vx) ∧ w'.cell? ⟨b, off + k * 8 + 5, none⟩ = some (.int .i64 (el l k).vy) ∧ w'.cell? ⟨b, off + k * 8 + 6, none⟩ = some (.int .i64 (el l k).hp) ∧ w'.cell? ⟨b, off + k * 8 + 7, none⟩ = some (.int .i64 (el l k).wt))
            (exact ⟨((HasB.bel HX.out).cell (p := ⟨b, off + k * 8, none⟩) hlt).trans c0, ((HasB.bel HX.out).cell (p := ⟨b, off + k * 8 + 1, none⟩) hlt).trans c1, ((HasB.bel HX.out).cell (p := ⟨b, off + k * 8 + 2, none⟩) hlt).trans c2, ((HasB.bel HX.out).cell (p := ⟨b, off + k * 8 + 3, none⟩) hlt).trans c3, ((HasB.bel HX.out).cell (p := ⟨b, off + k * 8 + 4, none⟩) hlt).trans c4, ((HasB.bel HX.out).cell (p := ⟨b, off + k * 8 + 5, none⟩) hlt).trans c5, ((HasB.bel HX.out).cell (p := ⟨b, off + k * 8 + 6, none⟩) hlt).trans c6, ((HasB.bel HX.out).cell (p := ⟨b, off + k * 8 + 7, none⟩) hlt).trans c7⟩)
            (first | (go_at_call 54; with_reducible refine (HON.out _ HX.out).mono ?_; rintro e' wn ⟨rfl, hx⟩; have HX := Lib.hid hx; clear hx) | (go_at_call 22; with_reducible refine (HPT.out _ HX.out).mono ?_; rintro e' wn ⟨rfl, hx⟩; have HX := Lib.hid hx; clear hx))
          all_goals
            go_wp2_with fail
            try rw [HTS.out]
            refine ⟨⟨k + 1, by omega, cast_succ k, ?_⟩, succ_less hkn⟩
            rw [take_each base l k hkn, ← List.append_assoc, HLL.out]
            exact HX.out
        · obtain rfl : k = l.length := by omega
          rw [List.take_of_length_le (Nat.le_refl _)] at hH hel
          have hb := Wr.rbytes w w.heap.size wr b1 44 (encB base l) [] hH (by unfold encB; rw [List.length_append]; omega)
          have HB := Lib.hid hb
          clear hb hH
          go_wp2_with fail
          refine HB.out.mono ?_
          rintro e' w5 ⟨v', rfl, v6, h6⟩
          have H6 := Lib.hid h6.tail.tail
          clear h6 HB
          go_wp2_with fail
          refine bodyPost_ret (results_tmp2 rfl _ _ _) rfl ?_
          exact ⟨v', rfl, H6.out⟩

end Go.Proofs.Ytfcncmhcmbghpaa.Ents
