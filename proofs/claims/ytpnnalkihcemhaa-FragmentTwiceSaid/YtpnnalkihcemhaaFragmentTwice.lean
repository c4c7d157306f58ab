/- The law FragmentTwice: a part that is fed twice is refused the second time, as long as its message isn't whole; and the message comes all the same. For all messages and parts; no condition. Here: the walk. -/
import Derived.Test.YtpnnalkihcemhaaFeedC
set_option linter.unusedVariables false
set_option linter.unusedSimpArgs false
namespace Go.Proofs.Ytpnnalkihcemhaa.Frag
open Go.Sort Go.RowKit Go.Deep Go.WideShapes Go.ChangeShapes Go.Proofs.Ytpnnalkihcemhaa.Mem Go.Proofs.Ytpnnalkihcemhaa.Bits Go.Proofs.Ytpnnalkihcemhaa.Open Go.Proofs.Ytpnnalkihcemhaa.Num Go.Proofs.Ytpnnalkihcemhaa.Wr Go.Proofs.Ytpnnalkihcemhaa.Step Go.Proofs.YtpnnalkihcemhaaW.PrintWords

/-- The parts that came: the k-th one, then those before the j-th one but for that. -/
def fedT (k j : Nat) : List Nat := k :: (List.range j).filter fun i => !(i == k)
theorem fedT_next {k j : Nat} (h : j ≠ k) : fedT k (j + 1) = fedT k j ++ [j] := by
  unfold fedT
  rw [List.range_succ, List.filter_append]
  simp [h]
theorem fedT_skip (k : Nat) : fedT k (k + 1) = fedT k k := by
  unfold fedT
  rw [List.range_succ, List.filter_append]
  simp
theorem fedT_len (k j : Nat) : (fedT k j).length = if j ≤ k then j + 1 else j := by
  induction j with
  | zero => simp [fedT]
  | succ j ih =>
    by_cases h : j = k
    · subst h
      rw [fedT_skip, ih]
      simp
    · rw [fedT_next h, List.length_append, ih]
      simp only [List.length_cons, List.length_nil]
      split <;> split <;> omega
theorem fedT_in {k j i : Nat} (h : i ∈ fedT k j) : i = k ∨ (i < j ∧ i ≠ k) := by
  unfold fedT at h
  rcases List.mem_cons.1 h with h | h
  · exact .inl h
  · rw [List.mem_filter, List.mem_range] at h
    exact .inr ⟨h.1, by simpa using h.2⟩
theorem fedT_nodup (k j : Nat) : (fedT k j).Nodup := by
  unfold fedT
  refine List.nodup_cons.2 ⟨by simp, List.Pairwise.filter _ List.nodup_range⟩
def stT (x : Snt) (k j : Nat) : List Msg := if (fedT k j).length < x.n then [x.msg (fedT k j)] else []
def leftT (n k j : Nat) : Nat := n - (fedT k j).length
theorem leftT_next {n k j : Nat} (hk : k < n) (hj : j < n) (h : j ≠ k) : leftT n k j = leftT n k (j + 1) + 1 ∧ leftT n k j ≤ n := by
  unfold leftT
  rw [fedT_next h, List.length_append, fedT_len]
  simp only [List.length_cons, List.length_nil]
  split <;> omega
theorem leftT_skip (n k : Nat) : leftT n k (k + 1) = leftT n k k := by unfold leftT; rw [fedT_skip]
theorem stT_skip (x : Snt) (k : Nat) : stT x k (k + 1) = stT x k k := by unfold stT; rw [fedT_skip]
theorem stT_next {x : Snt} {k j : Nat} (hx : x.ok) (hk : k < x.n) (hj : j < x.n) (h : j ≠ k) : feedA (stT x k j) (part x.id x.bs j) = (stT x k (j + 1), if leftT x.n k (j + 1) = 0 then ⟨some x.bs, 0⟩ else ⟨none, 0⟩) := by
  have hl : (fedT k j).length < x.n := by rw [fedT_len]; split <;> omega
  have hni : j ∉ fedT k j := fun hm => by rcases fedT_in hm with h1 | h1 <;> omega
  have := feed_next (l1 := []) (l2 := []) hx hj hni (fedT_nodup k j) (fun i hi => by rcases fedT_in hi with h1 | h1 <;> omega) hl (by simp)
  unfold stT leftT
  rw [if_pos hl, fedT_next h, List.length_append]
  simp only [List.nil_append] at this
  rw [this]
  simp only [List.length_cons, List.length_nil]
  by_cases h2 : (fedT k j).length + 1 < x.n
  · rw [if_pos h2, if_pos (by omega), if_neg (by omega)]
  · rw [if_neg h2, if_neg (by omega), if_pos (by omega)]
theorem twice_first {x : Snt} {k : Nat} (hx : x.ok) (hk : k < x.n) (h2 : 2 ≤ x.n) : feedA [] (part x.id x.bs k) = (stT x k 0, ⟨none, 0⟩) := by
  have := feed_first (l := []) hx hk (by simp) (by decide)
  rw [this, if_pos (by omega)]
  unfold stT
  rw [if_pos (by simp [fedT]; omega)]
  simp [fedT]
theorem twice_again {x : Snt} {k : Nat} (hx : x.ok) (hk : k < x.n) (h2 : 2 ≤ x.n) : feedA (stT x k 0) (part x.id x.bs k) = (stT x k 0, ⟨none, 8⟩) := by
  have e : stT x k 0 = [x.msg [k]] := by
    unfold stT
    rw [if_pos (by simp [fedT]; omega)]
    simp [fedT]
  rw [e]
  exact feed_again (l1 := []) (l2 := []) hx hk (by simp) (by simp)
theorem twice_end {x : Snt} {k : Nat} (hk : k < x.n) : stT x k x.n = [] := by
  unfold stT
  rw [fedT_len, if_neg (by split <;> omega)]
theorem leftT_start {n k : Nat} : leftT n k 0 = n - 1 := by unfold leftT; simp [fedT]
theorem part_bytes {id : Int} {bs : List Int} {j : Nat} (h : bytesOk bs) : bytesOk (part id bs j) := by
  refine ⟨by rw [part_length]; omega, fun c hc => ?_⟩
  unfold part at hc
  rcases List.mem_append.1 hc with hc | hc
  · exact pack_byte _ c hc
  · exact h.2 c (List.mem_of_mem_drop (List.mem_of_mem_take hc))
theorem rem_facts {at_ : Int} {n : Nat} (h0 : 0 ≤ at_) (h1 : at_ < 256) (hn : 0 < n) (h14 : n ≤ 14) : ∃ k : Nat, k < n ∧ at_.tmod (n : Int) = (k : Int) ∧ IntKind.i64.wrap at_ = at_ ∧ IntKind.i64.wrap (k : Int) = (k : Int) ∧ wrap64 (k : Int) = (k : Int) ∧ wrap64 at_ = at_ := by
  have h2 := Int.emod_nonneg at_ (show (n : Int) ≠ 0 by omega)
  have h3 := Int.emod_lt_of_pos at_ (show (0 : Int) < (n : Int) by omega)
  refine ⟨(at_ % (n : Int)).toNat, by omega, by rw [Int.tmod_eq_emod_of_nonneg h0]; omega, ?_, ?_, ?_, ?_⟩
  · rw [wrap_i64]; unfold wrap64; omega
  · rw [wrap_i64]; unfold wrap64; omega
  · unfold wrap64; omega
  · unfold wrap64; omega
theorem n_nz {n : Nat} (h : 0 < n) : ((n : Int) == 0) = false ∧ ¬ (n : Int) = 0 := ⟨beq_eq_false_iff_ne.2 (by omega), by omega⟩
theorem sub1 {n z : Nat} (h : n = z + 1) (h2 : n ≤ 14) : (n : Int) - 1 = (z : Int) ∧ IntKind.i64.wrap ((n : Int) - 1) = (z : Int) ∧ wrap64 ((n : Int) - 1) = (z : Int) ∧ IntKind.i64.wrap (z : Int) = (z : Int) ∧ wrap64 (z : Int) = (z : Int) := by
  rw [wrap_i64, wrap_i64]; unfold wrap64; omega

set_option maxRecDepth 100000 in
set_option maxHeartbeats 2000000 in
theorem fragmentTwice_core (w : World) (i s x : Int) (hm : MsgOk i s x) (at_ : Int) (ha0 : 0 ≤ at_) (ha1 : at_ < 256) :
    Calls Try.prog 8 #[.agg #[.int .u16 i, .int .u16 s, .int .u8 x], .int .u8 at_] w fun e' w' => e' = .returned (.bool true) ∧ Below w.heap.size w w' := by
  have h0 := (Holds.start w).alloc [.int .u16 i, .int .u16 s, .int .u8 x] 24
  have hb0 := h0.below
  have hs0 := h0.size
  have e0 := h0.cell 0 (v := .int .u16 i) rfl
  have e1 := h0.cell 1 (v := .int .u16 s) rfl
  have e2 := h0.cell 2 (v := .int .u8 x) rfl
  have hlt := h0.lt
  have hmb := mbytes (w.alloc (.cells [.int .u16 i, .int .u16 s, .int .u8 x].toArray 24)) i s x hm.2.2.1 hm.2.2.2.1 hm.2.2.2.2.1 hm.2.2.2.2.2
  have HMB := Lib.hid hmb
  have HM := Lib.hid hm
  have HB0 := Lib.hid hb0
  have HS0 := Lib.hid hs0
  have HLT := Lib.hid hlt
  have HA := Lib.hid (And.intro ha0 ha1)
  clear hmb h0 hm hb0 hs0 hlt ha0 ha1
  obtain ⟨bs, hbs⟩ : ∃ bs, msgB s x = bs := ⟨_, rfl⟩
  rw [hbs] at HMB
  have HOK := Lib.hid (hbs ▸ msgB_ok s x)
  clear hbs
  go_enter Try.func8, Try.ntmps8
  go_wp2_with fail
  refine HMB.out.mono ?_
  rintro e' w2 ⟨vb, rfl, h2⟩
  have e0 := (h2.below.cell (p := ⟨w.heap.size, 0, none⟩) HLT.out).trans e0
  have hrd := h2.rd
  have hsp := fsplit w2 i vb bs HM.out.1 HM.out.2.1 hrd
  have HSP := Lib.hid hsp
  have HRB := Lib.hid hrd
  have hb2 := HB0.out.trans (h2.below.mono HS0.out)
  have HB2 := Lib.hid hb2
  obtain ⟨Ab, cb, rfl⟩ := h2.slice
  clear hsp h2 hrd hb2 e1 e2 HMB
  go_wp2_with fail
  refine HSP.out.mono ?_
  rintro e' w3 ⟨v3, rfl, hb3, hR⟩
  have hb4 := HB2.out.trans (hb3.mono HB2.out.size)
  have HB4 := Lib.hid hb4
  have HR := Lib.hid hR
  have HRB := Lib.hid (HRB.out.below hb3)
  have haw := awake15 w3
  have HAW := Lib.hid haw
  clear haw hR hb3 hb4 HSP e0
  obtain ⟨er, her⟩ : ∃ er, errS bs = er := ⟨_, rfl⟩
  rw [her]
  have HER := Lib.hid her
  by_cases he : er = 0
  · have te : (er != 0) = false := by rw [he]; rfl
    have he2 := her.trans he
    rw [partsOf_ok he2] at HR
    obtain ⟨A, c, rfl, hc, _, _⟩ := HR.out.form
    rw [splitL_length] at hc HR ⊢
    have hn14 := cnt_max (errS_zero he2).2
    have hn0 : 0 < cnt bs.length := by have := (errS_zero he2).1; unfold cnt; omega
    obtain ⟨n, hn⟩ : ∃ n, cnt bs.length = n := ⟨_, rfl⟩
    rw [hn] at hc hn14 hn0 HR ⊢
    have HN := Lib.hid hn
    have HN14 := Lib.hid hn14
    have HN0 := Lib.hid hn0
    have HX := Lib.hid (Snt.ok.mk (x := ⟨i, bs⟩) HM.out.1 HM.out.2.1 he2)
    clear he he2 her hn hn14
    by_cases h2 : n < 2
    · have t2 : decide ((n : Int) < 2) = true := dt (by omega)
      clear hn0 hc
      go_wp2_with fail
      refine HAW.out.mono ?_
      rintro e' w5 ⟨rfl, hb5⟩
      have hb6 := HB4.out.trans (hb5.mono HB4.out.size)
      have HB6 := Lib.hid hb6
      clear hb5 hb6 HAW
      go_wp2_with fail
      refine (awake15 w5).mono ?_
      rintro e' w6 ⟨rfl, hb7⟩
      have hb8 := HB6.out.trans (hb7.mono HB6.out.size)
      clear hb7 HB6
      go_wp2_with fail
      go_ret
      exact ⟨rfl, hb8⟩
    · have t2 : decide ((n : Int) < 2) = false := df (by omega)
      have H2 := Lib.hid (Nat.le_of_not_lt h2)
      clear hn0
      obtain ⟨nz1, nz2⟩ := n_nz HN0.out
      obtain ⟨k, hkn, kr, kw1, kw2, kw3, kw4⟩ := rem_facts HA.out.1 HA.out.2 HN0.out HN14.out
      have HKN := Lib.hid hkn
      clear hkn
      go_wp2_with fail
      refine HAW.out.mono ?_
      rintro e' w5 ⟨rfl, hb5⟩
      have hb6 := HB4.out.trans (hb5.mono HB4.out.size)
      have HB6 := Lib.hid hb6
      have hR5 := HR.out.below hb5
      have HRB5 := Lib.hid (HRB.out.below hb5)
      obtain ⟨A2, c2, he2, hc2, _, hel⟩ := hR5.form
      rw [splitL_length, HN.out] at he2
      simp only [Value.slice.injEq, true_and] at he2
      obtain ⟨rfl, rfl⟩ := he2
      obtain ⟨b, off, Ak, ck, rfl, hlt, _, _, hcell, hrdk⟩ := hel k _ (splitL_get i bs k (by rw [HN.out]; exact HKN.out))
      have HEL := Lib.hid hel
      obtain ⟨p, hp⟩ : ∃ p, part i bs k = p := ⟨_, rfl⟩
      rw [hp] at hcell hrdk
      have hbp : bytesOk p := hp ▸ part_bytes HOK.out
      have hf1 := twice_first HX.out (k := k) (show k < (Snt.mk i bs).n by rw [show (Snt.mk i bs).n = n from HN.out]; exact HKN.out) (by rw [show (Snt.mk i bs).n = n from HN.out]; exact H2.out)
      have hf2 := twice_again HX.out (k := k) (show k < (Snt.mk i bs).n by rw [show (Snt.mk i bs).n = n from HN.out]; exact HKN.out) (by rw [show (Snt.mk i bs).n = n from HN.out]; exact H2.out)
      rw [show part (Snt.mk i bs).id (Snt.mk i bs).bs k = p from hp] at hf1 hf2
      have hs6 := Asm.start ((Holds.start w5).alloc [.slice none 0 0] 41)
      have hcell6 : (w5.alloc (.cells [Value.slice none 0 0].toArray 41)).cell? ⟨b, off + k, none⟩ = some (.slice Ak p.length ck) := by rw [World.cell?_alloc_lt _ _ _ hlt]; exact hcell
      have HS6 := Lib.hid hs6
      have HRK := Lib.hid hrdk
      have HF1 := Lib.hid hf1
      have HF2 := Lib.hid hf2
      have HBP := Lib.hid hbp
      have HCK := Lib.hid (And.intro hlt hcell)
      clear hb5 hb6 HAW hR5 hel hp hf1 hf2 hs6 hrdk hbp hlt hcell HR HRB hc2
      go_upto_region 7 with (fail)
      rw [show w5.alloc (.cells #[Value.slice none 0 0] 41) = w5.alloc (.cells [Value.slice none 0 0].toArray 41) from rfl]
      generalize w5.alloc (.cells [Value.slice none 0 0].toArray 41) = w6 at *
      obtain ⟨a, ha⟩ : ∃ a, w5.heap.size = a := ⟨_, rfl⟩
      rw [ha] at HS6 ⊢
      clear ha
      have kl0 : (0 : Int) ≤ (k : Int) := Int.natCast_nonneg _
      have kl1 : (k : Int) < (n : Int) := Int.ofNat_lt.2 HKN.out
      clear kr kw1 kw2 kw3 kw4 nz1 nz2
      have hcl := afeed w5 w6 a [] [] Ak ck p HS6.out (fun w' h => HRK.out.below h.below) HBP.out
      rw [HF1.out] at hcl
      have HCL := Lib.hid hcl
      clear hcl
      go_wp2_with fail
      refine HCL.out.mono ?_
      rintro e' w7 ⟨A7, c7, rfl, _, hs7⟩
      have HS7 := Lib.hid hs7
      have hcell7 := (hs7.below.cell (p := ⟨b, off + k, none⟩) HCK.out.1).trans HCK.out.2
      have hcl := afeed w5 w7 a _ [] Ak ck p hs7 (fun w' h => HRK.out.below h.below) HBP.out
      rw [HF2.out] at hcl
      have HCL := Lib.hid hcl
      clear hcl hs7 HS6 hcell6
      go_wp2_with fail
      refine HCL.out.mono ?_
      rintro e' w8 ⟨A8, c8, rfl, _, hs8⟩
      have HS8 := Lib.hid hs8
      obtain ⟨z0, hz0⟩ : ∃ z0, leftT n k 0 = z0 := ⟨_, rfl⟩
      obtain ⟨y1, y2, y3, y4, y5⟩ := sub1 (n := n) (z := z0) (by rw [← hz0, leftT_start]; have := H2.out; omega) HN14.out
      have HZ0 := Lib.hid hz0
      clear hs8 HCL HS7 hcell7 hz0
      go_wp2_with fail
      go_loopw [16, 17] (fun lv iv wr => ∃ j : Nat, Hid (j ≤ n) ∧ iv = .int .i64 j ∧ lv = .int .i64 (leftT n k j : Nat) ∧ Hid (Asm w5 wr a (stT ⟨i, bs⟩ k j) [])) (fun _ iv _ => n - (intOf iv).toNat)
      case atStart => exact ⟨0, Lib.hid (Nat.zero_le _), rfl, by rw [HZ0.out], HS8⟩
      case round =>
        obtain ⟨j, HJN, rfl, rfl, HS⟩ := hrel
        clear HS8 y1 y2 y3 y4 y5
        by_cases hjn : j < n
        · obtain ⟨k0, k1, k2, k3⟩ := fi_facts hjn (Nat.le_trans HN14.out (by decide))
          have HLT2 := Lib.hid hjn
          by_cases hjk : j = k
          · subst hjk
            clear hjn kl0 kl1
            go_wp2_with fail
            exact ⟨⟨j + 1, Lib.hid HLT2.out, by go_num, by rw [leftT_skip], Lib.hid (by rw [stT_skip]; exact HS.out)⟩, fi_down HLT2.out⟩
          · have tj : ((j : Int) == (k : Int)) = false := beq_eq_false_iff_ne.2 (fun h => hjk (Int.ofNat.inj h))
            have tj2 : (j == k) = false := beq_eq_false_iff_ne.2 hjk
            have hnx := leftT_next HKN.out hjn hjk
            have hfa := stT_next HX.out (k := k) (j := j) (by rw [show (Snt.mk i bs).n = n from HN.out]; exact HKN.out) (by rw [show (Snt.mk i bs).n = n from HN.out]; exact hjn) hjk
            rw [show (Snt.mk i bs).n = n from HN.out] at hfa
            obtain ⟨b', off', Aj, cj, hA, hltj, _, _, hcellj, hrdj⟩ := HEL.out j _ (splitL_get i bs j (by rw [HN.out]; exact hjn))
            obtain ⟨rfl, rfl⟩ := some_addr hA
            obtain ⟨p', hp'⟩ : ∃ p', part i bs j = p' := ⟨_, rfl⟩
            rw [hp'] at hcellj hrdj
            rw [show part (Snt.mk i bs).id (Snt.mk i bs).bs j = p' from hp'] at hfa
            have hcl := afeed w5 wr a _ [] Aj cj p' HS.out (fun w' h => hrdj.below h.below) (hp' ▸ part_bytes HOK.out)
            rw [hfa] at hcl
            have hcell9 := (HS.out.below.cell (p := ⟨b, off + j, none⟩) hltj).trans hcellj
            obtain ⟨z, hz⟩ : ∃ z, leftT n k (j + 1) = z := ⟨_, rfl⟩
            obtain ⟨y, hy⟩ : ∃ y, leftT n k j = y := ⟨_, rfl⟩
            rw [hz] at hcl hnx
            rw [hy] at hnx ⊢
            obtain ⟨y1, y2, y3, y4, y5⟩ := sub1 hnx.1 (Nat.le_trans hnx.2 HN14.out)
            have HZ := Lib.hid hz
            have HJK := Lib.hid hjk
            clear hjn hjk hnx hfa hA hltj hcellj hrdj hp' hz hy
            by_cases hz0 : z = 0
            · rw [if_pos hz0] at hcl
              have tz : ((z : Int) == 0) = true := by rw [hz0]; rfl
              have HCL := Lib.hid hcl
              clear hcl hz0
              go_wp2_with fail
              refine HCL.out.mono ?_
              rintro e' w9 ⟨A9, c9, rfl, hr9, hs9⟩
              have HS9 := Lib.hid hs9
              have hsm := Wr.same w9 (.slice A9 bs.length c9) (.slice Ab bs.length cb) bs bs hr9 (HRB5.out.below hs9.below)
              rw [decide_eq_true rfl] at hsm
              have HSM := Lib.hid hsm
              clear hr9 hs9 hsm HCL
              go_wp2_with fail
              refine HSM.out.mono ?_
              rintro e' w10 ⟨rfl, hd⟩
              have HS10 := Lib.hid (HS9.out.then hd.below)
              clear hd HSM
              go_wp2_with fail
              exact ⟨⟨j + 1, Lib.hid HLT2.out, by go_num, by rw [HZ.out], HS10⟩, fi_down HLT2.out⟩
            · rw [if_neg hz0] at hcl
              have tz : ((z : Int) == 0) = false := beq_eq_false_iff_ne.2 (fun h => hz0 (Int.ofNat.inj h))
              have HCL := Lib.hid hcl
              clear hcl hz0
              go_wp2_with fail
              refine HCL.out.mono ?_
              rintro e' w9 ⟨A9, c9, rfl, _, hs9⟩
              have HS9 := Lib.hid hs9
              clear hs9 HCL
              go_wp2_with fail
              exact ⟨⟨j + 1, Lib.hid HLT2.out, by go_num, by rw [HZ.out], HS9⟩, fi_down HLT2.out⟩
        · obtain rfl : j = n := Nat.le_antisymm HJN.out (Nat.le_of_not_lt hjn)
          have k1 : ¬ (j : Int) < (j : Int) := Int.lt_irrefl _
          have hwt := waits w5 wr a _ [] HS.out
          have he := twice_end (x := ⟨i, bs⟩) (k := k) (by rw [show (Snt.mk i bs).n = j from HN.out]; exact HKN.out)
          rw [show (Snt.mk i bs).n = j from HN.out] at he
          rw [he] at hwt
          have HWT := Lib.hid hwt
          have hb9 := HB6.out.trans (HS.out.below.mono HB6.out.size)
          have HB9 := Lib.hid hb9
          clear hjn he hwt hb9
          go_wp2_with fail
          refine HWT.out.mono ?_
          rintro e' w9 ⟨rfl, rfl⟩
          go_wp2_with fail
          go_ret
          exact ⟨rfl, HB9.out⟩
  · have te : (er != 0) = true := bne_iff_ne.2 he
    obtain ⟨A, c, rfl, _, _, _⟩ := HR.out.form
    clear he her
    go_wp2_with fail
    refine HAW.out.mono ?_
    rintro e' w5 ⟨rfl, hb5⟩
    have hb6 := HB4.out.trans (hb5.mono HB4.out.size)
    have HB6 := Lib.hid hb6
    clear hb5 hb6 HAW
    go_wp2_with fail
    refine (awake15 w5).mono ?_
    rintro e' w6 ⟨rfl, hb7⟩
    have hb8 := HB6.out.trans (hb7.mono HB6.out.size)
    clear hb7 HB6
    go_wp2_with fail
    go_ret
    exact ⟨rfl, hb8⟩

set_option maxRecDepth 100000 in
theorem fragmentTwice (w : World) {H : Type} {enc : TypeId × Value → H} {base base' : Nat} {sp : Nat → Bool} {held : Bool} {d : DataW H} {ps : List MemPlace} {r : Reach} (v0 : Value)
    (hok0 : Value.okWide Try.prog w r base' 24 v0) (h0 : DataW.Trod enc Try.prog w base sp held 24 v0 d ps) (at_ : Int) (ha : (Lit.int .u8 at_).wf = true) :
    Calls Try.prog 8 #[v0, .int .u8 at_] w fun e' w' => e' = .returned (.bool true) ∧ Below w.heap.size w w' := by
  obtain ⟨i, s, x, rfl, hm⟩ := open_msg hok0 h0
  simp [Lit.wf, IntKind.min, IntKind.max, IntKind.signed, IntKind.bits] at ha
  exact fragmentTwice_core w i s x hm at_ (by omega) (by omega)

end Go.Proofs.Ytpnnalkihcemhaa.Frag
