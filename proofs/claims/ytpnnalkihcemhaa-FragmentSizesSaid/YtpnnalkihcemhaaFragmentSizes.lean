/- The law FragmentSizes: a message's parts have 303 bytes each, but for the last one, together three of each and the message's. For all messages; no condition. Here: the walk. -/
import Derived.Test.YtpnnalkihcemhaaFragO
import Derived.Deep.Cut
set_option linter.unusedVariables false
set_option linter.unusedSimpArgs false
namespace Go.Proofs.Ytpnnalkihcemhaa.Frag
open Go.Sort Go.RowKit Go.Deep Go.WideShapes Go.ChangeShapes Go.Proofs.Ytpnnalkihcemhaa.Mem Go.Proofs.Ytpnnalkihcemhaa.Open Go.Proofs.Ytpnnalkihcemhaa.Num Go.Proofs.Ytpnnalkihcemhaa.Wr Go.Proofs.Ytpnnalkihcemhaa.Step Go.Proofs.YtpnnalkihcemhaaW.PrintWords

theorem dec_t {k n : Nat} (h : k + 1 < n) : decide ((k : Int) + 1 < (n : Int)) = true := by simp; omega
theorem dec_f {k n : Nat} (h : ¬ k + 1 < n) : decide ((k : Int) + 1 < (n : Int)) = false := by simp; omega
theorem lt_cast {k n : Nat} (h : k + 1 < n) : (k : Int) + 1 < (n : Int) := by omega
theorem sum_wrap {y z a : Int} (h : y + a = z) (hz : IntKind.i64.wrap z = z) : wrap64 (y + a) = z := by rw [h, ← wrap_i64]; exact hz
theorem k_facts {k n : Nat} (h : k < n) (h2 : n ≤ 14) : (0 : Int) ≤ (k : Int) ∧ (k : Int) < (n : Int) ∧ wrap64 ((k : Int) + 1) = (k : Int) + 1 ∧ IntKind.i64.wrap ((k : Int) + 1) = (k : Int) + 1 := by rw [wrap_i64]; unfold wrap64; omega
theorem pl_facts {L k n p : Nat} (hn : cnt L = n) (hk : k < n) (hp : p = 3 + min 300 (L - 300 * k)) (hL : L ≤ 4000) :
    IntKind.i64.wrap ((p : Int) - 3) = (p : Int) - 3 ∧ wrap64 ((p : Int) - 3) = (p : Int) - 3 ∧ (sumTo L k : Int) + ((p : Int) - 3) = ((sumTo L (k + 1) : Nat) : Int) ∧ IntKind.i64.wrap ((sumTo L (k + 1) : Nat) : Int) = ((sumTo L (k + 1) : Nat) : Int) ∧
      ((p : Int) != 303) = (decide (p ≠ 303)) ∧ ¬ (p : Int) < 4 ∧ ¬ (303 : Int) < (p : Int) ∧ (k + 1 < n → p = 303) ∧ decide ((p : Int) < 4) = false ∧ decide ((303 : Int) < (p : Int)) = false := by
  have h1 := cnt_lt (n := L) (k := k) (by omega)
  have h2 : k + 1 < n → 300 * k + 300 < L := fun h => cnt_next (n := L) (k := k) (by omega)
  have h3 := sumTo_succ L k
  have h4 : sumTo L (k + 1) ≤ 4000 := by unfold sumTo; omega
  rw [wrap_i64, wrap_i64]
  refine ⟨by unfold wrap64; omega, by unfold wrap64; omega, by omega, by unfold wrap64; omega, ?_, by omega, by omega, fun h => by have := h2 h; omega, ?_, ?_⟩
  · rw [Bool.eq_iff_iff]; simp; omega
  · simp; omega
  · simp; omega

set_option maxHeartbeats 1000000 in
theorem fragmentSizes_core (w : World) (i s x : Int) (hm : MsgOk i s x) :
    Calls Try.prog 4 #[.agg #[.int .u16 i, .int .u16 s, .int .u8 x]] w fun e' w' => e' = .returned (.bool true) ∧ Below w.heap.size w w' := by
  have h0 := (Holds.start w).alloc [.int .u16 i, .int .u16 s, .int .u8 x] 24
  have hb0 := h0.below
  have hs0 := h0.size
  have e0 := h0.cell 0 (v := .int .u16 i) rfl
  have e1 := h0.cell 1 (v := .int .u16 s) rfl
  have e2 := h0.cell 2 (v := .int .u8 x) rfl
  have hlt := h0.lt
  have hmb := mbytes (w.alloc (.cells [.int .u16 i, .int .u16 s, .int .u8 x].toArray 24)) i s x hm.2.2.1 hm.2.2.2.1 hm.2.2.2.2.1 hm.2.2.2.2.2
  have HMB := Lib.hid hmb
  have HM := Lib.hid hm
  have HB0 := Lib.hid hb0
  have HS0 := Lib.hid hs0
  have HLT := Lib.hid hlt
  clear hmb h0 hm hb0 hs0 hlt
  obtain ⟨bs, hbs⟩ : ∃ bs, msgB s x = bs := ⟨_, rfl⟩
  rw [hbs] at HMB
  have hlen : bs.length ≤ 5000 := by rw [← hbs, msgB_length]; omega
  have HLEN := Lib.hid hlen
  clear hbs hlen
  go_enter Try.func4, Try.ntmps4
  go_wp2_with fail
  refine HMB.out.mono ?_
  rintro e' w2 ⟨vb, rfl, h2⟩
  have e0 := (h2.below.cell (p := ⟨w.heap.size, 0, none⟩) HLT.out).trans e0
  have hrd := h2.rd
  have hsp := fsplit w2 i vb bs HM.out.1 HM.out.2.1 hrd
  have HSP := Lib.hid hsp
  have hb2 := HB0.out.trans (h2.below.mono HS0.out)
  have HB2 := Lib.hid hb2
  obtain ⟨Ab, cb, rfl⟩ := h2.slice
  clear hsp h2 hrd hb2 e1 e2 HMB
  go_wp2_with fail
  refine HSP.out.mono ?_
  rintro e' w3 ⟨v3, rfl, hb3, hR⟩
  have hb4 := HB2.out.trans (hb3.mono HB2.out.size)
  have HB4 := Lib.hid hb4
  have HR := Lib.hid hR
  have haw := awake15 w3
  have HAW := Lib.hid haw
  clear haw hR hb3 hb4 HSP e0
  by_cases h1 : bs.length = 0
  · have he : errS bs = 1 := by unfold errS; rw [if_pos h1]
    rw [he]
    have hp : partsOf i bs = [] := partsOf_not (by omega)
    rw [hp] at HR
    obtain ⟨A, c, rfl, _⟩ := HR.out.form
    have t1 : ((bs.length : Int) == 0) = true := beq_iff_eq.2 (by omega)
    have t2 : decide ((4000 : Int) < (bs.length : Int)) = false := by simp; omega
    rw [show ([] : List (List Int)).length = 0 from rfl]
    have H1 := Lib.hid h1
    clear h1 he hp
    go_wp2_with fail
    refine HAW.out.mono ?_
    rintro e' w5 ⟨rfl, hb5⟩
    have hb6 := HB4.out.trans (hb5.mono HB4.out.size)
    clear hb5
    go_wp2_with fail
    go_loopw [6, 7] (fun t i wr => t = .int .i64 0 ∧ i = .int .i64 0 ∧ w5 = wr) (fun _ _ _ => 0)
    case atStart => exact ⟨rfl, rfl, rfl⟩
    case round =>
      obtain ⟨rfl, rfl, rfl⟩ := hrel
      go_wp2_with fail
      go_ret
      exact ⟨rfl, hb6⟩
  · have t1 : ((bs.length : Int) == 0) = false := beq_eq_false_iff_ne.2 (by omega)
    by_cases h2 : 4000 < bs.length
    · have he : errS bs = 3 := by unfold errS; rw [if_neg h1, if_pos h2]
      rw [he]
      have hp : partsOf i bs = [] := partsOf_not (by omega)
      rw [hp] at HR
      obtain ⟨A, c, rfl, _⟩ := HR.out.form
      have t2 : decide ((4000 : Int) < (bs.length : Int)) = true := by simp; omega
      rw [show ([] : List (List Int)).length = 0 from rfl]
      clear h1 h2 he hp
      go_wp2_with fail
      refine HAW.out.mono ?_
      rintro e' w5 ⟨rfl, hb5⟩
      have hb6 := HB4.out.trans (hb5.mono HB4.out.size)
      clear hb5
      go_wp2_with fail
      go_loopw [6, 7] (fun t i wr => t = .int .i64 0 ∧ i = .int .i64 0 ∧ w5 = wr) (fun _ _ _ => 0)
      case atStart => exact ⟨rfl, rfl, rfl⟩
      case round =>
        obtain ⟨rfl, rfl, rfl⟩ := hrel
        go_wp2_with fail
        go_ret
        exact ⟨rfl, hb6⟩
    · have he : errS bs = 0 := by unfold errS; rw [if_neg h1, if_neg h2]
      rw [he]
      rw [partsOf_ok he] at HR
      have t2 : decide ((4000 : Int) < (bs.length : Int)) = false := by simp; omega
      obtain ⟨A, c, rfl, hc, _, hr⟩ := HR.out.form
      rw [splitL_length] at hc ⊢
      have HRR := Lib.hid hr
      obtain ⟨n, hn⟩ : ∃ n, cnt bs.length = n := ⟨_, rfl⟩
      rw [hn] at hc ⊢
      have HN := Lib.hid hn
      have HN14 := Lib.hid (hn ▸ cnt_max (show bs.length ≤ 4000 by omega))
      have H4 : Hid (bs.length ≤ 4000) := Nat.le_of_not_lt h2
      clear h1 h2 he hr hn HR
      go_wp2_with fail
      refine HAW.out.mono ?_
      rintro e' w5 ⟨rfl, hb5⟩
      have hb6 := HB4.out.trans (hb5.mono HB4.out.size)
      have HB5 := Lib.hid hb5
      clear hb5 HAW
      go_wp2_with fail
      go_loopw [6, 7] (fun t i wr => ∃ k : Nat, k ≤ n ∧ i = .int .i64 k ∧ t = .int .i64 ((sumTo bs.length k : Nat) : Int) ∧ w5 = wr) (fun _ i _ => n - (intOf i).toNat)
      case atStart => exact ⟨0, Nat.zero_le _, rfl, by simp [sumTo], rfl⟩
      case round =>
        obtain ⟨k, hk, rfl, rfl, rfl⟩ := hrel
        by_cases hkn : k < n
        · obtain ⟨b, off, A', c', rfl, hlt, _, _, hcell, _⟩ := HRR.out k _ (splitL_get i bs k (by rw [HN.out]; exact hkn))
          have hcell := (HB5.out.cell (p := ⟨b, off + k, none⟩) hlt).trans hcell
          obtain ⟨p, hp⟩ : ∃ p, (part i bs k).length = p := ⟨_, rfl⟩
          obtain ⟨p1, p2, p3, p4, p5, p6, p7, p8, p9, p10⟩ := pl_facts HN.out hkn (hp.symm.trans (part_length i bs k)) H4.out
          rw [hp] at hcell
          obtain ⟨z, hz⟩ : ∃ z, sumTo bs.length (k + 1) = z := ⟨_, rfl⟩
          obtain ⟨y, hy⟩ : ∃ y, sumTo bs.length k = y := ⟨_, rfl⟩
          rw [hz, hy] at p3
          rw [hz] at p4
          rw [hy]
          obtain ⟨k0, k1, hts, hts2⟩ := k_facts hkn HN14.out
          have HZ := Lib.hid hz
          have HW := Lib.hid (sum_wrap p3 p4)
          by_cases hk2 : k + 1 < n
          · have q1 := dec_t hk2
            have q1' := lt_cast hk2
            have hp8 := p8 hk2
            clear hp hz hy p3 p5 p8 hk2 HB4 HS0 HB0 HLT HM HLEN
            go_upto_region 10 with (fail)
            clear p1 p2 p4 p6 p7 p9 p10
            subst hp8
            go_wp2_with fail
            clear q1 q1' hts hts2 k0 k1 hcell
            refine ⟨⟨k + 1, hkn, cast_succ k, ?_, by first | rfl | trivial⟩, succ_less hkn⟩
            have hw := HW.out
            rw [show ((303 : Nat) : Int) - 3 = 300 from rfl] at hw
            rw [HZ.out]
            first
              | rw [hw]
              | (simp only [hw]; done)
          · have q1 := dec_f hk2
            clear hp hz hy p3 p5 p8 hk2 HB4 HS0 HB0 HLT HM HLEN
            go_wp2_with fail
            clear q1 hts hts2 k0 k1 hcell p1 p2 p4 p6 p7 p9 p10
            refine ⟨⟨k + 1, hkn, cast_succ k, ?_, by first | rfl | trivial⟩, succ_less hkn⟩
            rw [HZ.out]
            first
              | rw [HW.out]
              | (simp only [HW.out]; done)
        · obtain rfl : k = n := by omega
          have hz : sumTo bs.length k = bs.length := by rw [← HN.out]; exact sumTo_all _
          rw [hz]
          clear hz
          go_wp2_with fail
          go_ret
          exact ⟨rfl, hb6⟩

set_option maxRecDepth 100000 in
theorem fragmentSizes (w : World) {H : Type} {enc : TypeId × Value → H} {base base' : Nat} {sp : Nat → Bool} {held : Bool} {d : DataW H} {ps : List MemPlace} {r : Reach} (v : Value)
    (hok : Value.okWide Try.prog w r base' 24 v) (h : DataW.Trod enc Try.prog w base sp held 24 v d ps) :
    Calls Try.prog 4 #[v] w fun e' w' => e' = .returned (.bool true) ∧ Below w.heap.size w w' := by
  obtain ⟨i, s, x, rfl, hm⟩ := open_msg hok h
  exact fragmentSizes_core w i s x hm

end Go.Proofs.Ytpnnalkihcemhaa.Frag
