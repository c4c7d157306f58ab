/- An entity taken on a base, of whatever bits; by the reference. -/
import Derived.Test.YtfcncmhcmbghpaaEWith
import Derived.Test.YtfcncmhcmbghpaaERPut
import Derived.Test.YtfcncmhcmbghpaaRRDn
import Derived.Test.YtfcncmhcmbghpaaQTail
set_option linter.unusedVariables false
set_option linter.unusedSimpArgs false
namespace Go.Proofs.Ytfcncmhcmbghpaa.Ents
open Go.Sort Go.RowKit Go.Proofs.Ytfcncmhcmbghpaa.Mem Go.Proofs.Ytfcncmhcmbghpaa.Open Go.Proofs.Ytfcncmhcmbghpaa.Num Go.Proofs.Ytfcncmhcmbghpaa.Step Go.Proofs.Ytfcncmhcmbghpaa.Wr Go.Proofs.Ytfcncmhcmbghpaa.Bits Go.Proofs.Ytfcncmhcmbghpaa.RRd Go.Proofs.YtfcncmhcmbghpaaW.PrintWords

theorem HasRR.cell2 {W : World} {B : Nat} {w : World} {b c : Nat} {l : List Bool} {a : Nat} {fl : Bool} {t : TypeId} {F : List Ent} {cs : List Value} (h : HasRR W B w b l a fl (.st c cs t :: F)) (k : Nat) {v : Value} (hv : cs[k]? = some v) : w.cell? ⟨c, k, none⟩ = some v := by
  obtain ⟨_, h⟩ := h
  exact h.up2.cell k hv
theorem HasRR.frozen2 {W : World} {B : Nat} {w : World} {b c : Nat} {l : List Bool} {a : Nat} {fl : Bool} {t : TypeId} {F : List Ent} {cs : List Value} (h : HasRR W B w b l a fl (.st c cs t :: F)) (k : Nat) : w.frozen? ⟨c, k, none⟩ = false := by
  obtain ⟨_, h⟩ := h
  exact h.up2.frozen k
theorem HasRR.drew {W : World} {B : Nat} {w : World} {b : Nat} {l : List Bool} {a : Nat} {fl : Bool} {F : List Ent} (h : HasRR W B w b l a fl F) : HasRR W B w.drew b l a fl F := by
  obtain ⟨v, h⟩ := h
  exact ⟨v, h.drew⟩
theorem HasRR.belowed {W : World} {B : Nat} {w w' : World} {b : Nat} {l : List Bool} {a : Nat} {fl : Bool} {F : List Ent} (h : HasRR W B w b l a fl F) (hb : Below w.heap.size w w') : HasRR W B w' b l a fl F := by
  obtain ⟨v, h⟩ := h
  exact ⟨v, hbelowed h hb⟩

/-- The bits told: k of n, asked for one by one. -/
theorem told_set (ts : List Bool) (n k : Nat) (t : Bool) (hk : ts.length = k) (hkn : k < n) : (bools (ts ++ List.replicate (n - k) false)).set k (.bool t) = bools ((ts ++ [t]) ++ List.replicate (n - (k + 1)) false) := by
  subst hk
  rw [show n - ts.length = n - (ts.length + 1) + 1 by omega, List.replicate_succ]
  simp only [bools, List.map_append, List.map_cons, List.map_nil]
  rw [List.set_append_right _ _ (by rw [List.length_map]; exact Nat.le_refl _), List.length_map, Nat.sub_self]
  simp
theorem told_get (ts : List Bool) (n k : Nat) (hk : ts.length = k) (hkn : k < n) : (bools (ts ++ List.replicate (n - k) false))[k]? = some (.bool false) := by
  subst hk
  rw [show n - ts.length = n - (ts.length + 1) + 1 by omega, List.replicate_succ]
  simp only [bools, List.map_append, List.map_cons]
  rw [List.getElem?_append_right (by rw [List.length_map]; exact Nat.le_refl _), List.length_map, Nat.sub_self]
  rfl
theorem one_test {x : Nat} {l : List Bool} (h : (x : Int) = val (l.take 1)) (hl : 1 ≤ l.length) : ((x : Int) == 1) = l.getD 0 false := by
  rw [h, bit_one_val l hl]
  cases l.getD 0 false <;> rfl
theorem take_snoc {l : List Bool} {a k : Nat} (h : a + k < l.length) : (l.drop a).take (k + 1) = (l.drop a).take k ++ [(l.drop (a + k)).getD 0 false] := by
  have h1 : k < (l.drop a).length := by rw [List.length_drop]; omega
  rw [List.take_add_one, List.getElem?_eq_getElem h1, List.getElem_drop]
  rw [List.getD_eq_getElem?_getD, List.getElem?_drop, Nat.add_zero, List.getElem?_eq_getElem h]
  rfl
def Told (L : List Bool) (at_ n k : Nat) (fl fl' : Bool) (a : Nat) (ts : List Bool) : Prop :=
  (fl' = false ∧ fl = false ∧ a = at_ + k ∧ at_ + k ≤ L.length ∧ ts = (L.drop at_).take k) ∨ (fl' = true ∧ (fl = true ∨ L.length < at_ + n))
theorem told_next {L : List Bool} {at_ n k a a' x : Nat} {fl fl1 fl2 : Bool} {ts : List Bool} {t : Bool} (h : Told L at_ n k fl fl1 a ts) (hkn : k < n) (ha' : a' ≤ L.length)
    (hc : (fl2 = false ∧ fl1 = false ∧ a' = a + 1 ∧ (x : Int) = val ((L.drop a).take 1)) ∨ (fl2 = true ∧ x = 0 ∧ (fl1 = true ∨ L.length < a + 1))) (ht : ((x : Int) == 1) = t) : Told L at_ n (k + 1) fl fl2 a' (ts ++ [t]) := by
  rcases hc with ⟨h1, h2, h3, h4⟩ | ⟨h1, _, h3⟩
  · rcases h with ⟨_, g2, g3, _, g4⟩ | ⟨g1, _⟩
    · subst g3
      refine .inl ⟨h1, g2, by omega, by omega, ?_⟩
      rw [take_snoc (by omega), g4, ← ht, one_test h4 (by rw [List.length_drop]; omega)]
    · rw [h2] at g1; cases g1
  · refine .inr ⟨h1, ?_⟩
    rcases h3 with h3 | h3
    · rcases h with ⟨g1, _⟩ | ⟨_, g2⟩
      · rw [g1] at h3; cases h3
      · exact g2
    · rcases h with ⟨_, _, g3, _, _⟩ | ⟨_, g2⟩
      · right; omega
      · exact g2
theorem kn_facts {k n : Nat} (h : k < n) (hn : n ≤ 100) : (0 : Int) ≤ (k : Int) ∧ (k : Int) < (n : Int) ∧ wrap64 ((k : Int) + 1) = (k : Int) + 1 := by unfold wrap64; omega
theorem a_next {a a0 n k : Nat} (h : a = a0 + n) : a + 8 * k = a0 + (n + 8 * k) := by omega
theorem read_le {l : List Bool} {a u k : Nat} (h : readS 0 (l.drop a) = some (u, k)) (ha : a ≤ l.length) : a + 8 * k ≤ l.length := by
  obtain ⟨q1, q2, _, _⟩ := readS_some _ _ 0 u k (Nat.le_refl _) h (by omega)
  have := congrArg List.length q1
  rw [List.length_append, q2, List.length_drop] at this
  omega
theorem fi_withL (bs : Enty) (d : List Int) (k : Nat) (hd : d.length = k) (hk : k < 6) : fi (withL bs (d ++ (fiL bs).drop k)) k = fi bs k := by
  obtain rfl | rfl | rfl | rfl | rfl | rfl : k = 0 ∨ k = 1 ∨ k = 2 ∨ k = 3 ∨ k = 4 ∨ k = 5 := by omega
  · match d, hd with | [], _ => rfl
  · match d, hd with | [a], _ => rfl
  · match d, hd with | [a, b], _ => rfl
  · match d, hd with | [a, b, c], _ => rfl
  · match d, hd with | [a, b, c, e], _ => rfl
  · match d, hd with | [a, b, c, e, f], _ => rfl
theorem rest_len (bs : Enty) (k : Nat) (hk : k < 6) : k + 1 + ((fiL bs).drop (k + 1)).length = 6 := by
  rw [List.length_drop, show (fiL bs).length = 6 from rfl]; omega

set_option maxHeartbeats 4000000 in
theorem ertake (W w : World) (b1 : Nat) (L : List Bool) (at_ : Nat) (fl : Bool) (F : List Ent) (bs : Enty) (hw : HasRR W W.heap.size w b1 L at_ fl F) (hat : at_ ≤ L.length) (hl : L.length ≤ 1000000000) :
    Calls Try.prog 57 #[.pointer (some ⟨b1, 0, none⟩), .agg #[.int .i64 bs.id, .int .i64 bs.kind, .int .i64 bs.x, .int .i64 bs.y, .int .i64 bs.vx, .int .i64 bs.vy, .int .i64 bs.hp, .int .i64 bs.wt]] w fun e' w' =>
      (∃ e n, fl = false ∧ takeE bs (L.drop at_) = some (e, n) ∧ at_ + n ≤ L.length ∧ e' = .returned (.tuple #[.agg #[.int .i64 e.id, .int .i64 e.kind, .int .i64 e.x, .int .i64 e.y, .int .i64 e.vx, .int .i64 e.vy, .int .i64 e.hp, .int .i64 e.wt], .bool true]) ∧ HasRR W W.heap.size w' b1 L (at_ + n) false F) ∨
      ((fl = true ∨ takeE bs (L.drop at_) = none) ∧ e' = .returned (.tuple #[.agg #[.int .i64 0, .int .i64 0, .int .i64 0, .int .i64 0, .int .i64 0, .int .i64 0, .int .i64 0, .int .i64 0], .bool false]) ∧ Holds W W.heap.size w' F) := by
  obtain ⟨v0, hH⟩ := hw
  have h1 := holds_at (cs := [.int .i64 bs.id, .int .i64 bs.kind, .int .i64 bs.x, .int .i64 bs.y, .int .i64 bs.vx, .int .i64 bs.vy, .int .i64 bs.hp, .int .i64 bs.wt]) (e := 29) hH (show w.heap.size = w.heap.size from rfl)
  have h2 := holds_at (cs := [.int .i64 0, .int .i64 0, .int .i64 0, .int .i64 0, .int .i64 0, .int .i64 0, .int .i64 0, .int .i64 0]) (e := 29) h1 (show w.heap.size + 1 = _ by simp only [sz])
  have h3 := holds_at (cs := bools [false, false, false, false, false, false]) (e := 86) h2 (show w.heap.size + 1 + 1 = _ by simp only [sz])
  have hR : HasRR W W.heap.size _ b1 L at_ fl (.st (w.heap.size + 1 + 1) (bools ([] ++ List.replicate (6 - 0) false)) 86 :: .st (w.heap.size + 1) [.int .i64 0, .int .i64 0, .int .i64 0, .int .i64 0, .int .i64 0, .int .i64 0, .int .i64 0, .int .i64 0] 29 :: .st w.heap.size [.int .i64 bs.id, .int .i64 bs.kind, .int .i64 bs.x, .int .i64 bs.y, .int .i64 bs.vx, .int .i64 bs.vy, .int .i64 bs.hp, .int .i64 bs.wt] 29 :: F) := ⟨v0, h3.perm (List.Perm.append_right F (List.perm_append_comm (l₁ := [_, _, _]) (l₂ := [_, _])))⟩
  have HR := Lib.hid hR
  have HL := Lib.hid hl
  have HAT := Lib.hid hat
  clear h1 h2 h3 hH hR hl hat
  go_enter Try.func57, Try.ntmps57
  go_wp2_with fail
  go_loopw [7] (fun i wr => ∃ k : Nat, k ≤ 6 ∧ i = .int .i64 k ∧ ∃ (a : Nat) (fl' : Bool) (ts : List Bool), ts.length = k ∧ a ≤ L.length ∧ Hid (Told L at_ 6 k fl fl' a ts) ∧
      HasRR W W.heap.size wr b1 L a fl' (.st (w.heap.size + 1 + 1) (bools (ts ++ List.replicate (6 - k) false)) 86 :: .st (w.heap.size + 1) [.int .i64 0, .int .i64 0, .int .i64 0, .int .i64 0, .int .i64 0, .int .i64 0, .int .i64 0, .int .i64 0] 29 :: .st w.heap.size [.int .i64 bs.id, .int .i64 bs.kind, .int .i64 bs.x, .int .i64 bs.y, .int .i64 bs.vx, .int .i64 bs.vy, .int .i64 bs.hp, .int .i64 bs.wt] 29 :: F)) (fun i _ => 6 - (intOf i).toNat)
  case atStart => exact ⟨0, by decide, rfl, at_, fl, [], rfl, HAT.out, Lib.hid (by cases fl with | true => exact .inr ⟨rfl, .inl rfl⟩ | false => exact .inl ⟨rfl, rfl, rfl, by rw [Nat.add_zero]; exact HAT.out, rfl⟩), HR.out⟩
  case round =>
    obtain ⟨k, hk, rfl, a, fl', ts, hts, ha, HTD, hR⟩ := hrel
    clear HR
    by_cases hkn : k < 6
    · obtain ⟨k0, k1, k2⟩ := kn_facts hkn (by decide)
      have k1' : (k : Int) < 6 := k1
      have HK := Lib.hid k2
      have ht := rrtake W W.heap.size wr b1 L a fl' _ 1 hR ha HL.out (by decide)
      rw [show ((1 : Nat) : Int) = 1 from rfl] at ht
      have HT := Lib.hid ht
      have HTS := Lib.hid hts
      clear ht hR k1 k2 hts
      go_wp2_with fail
      refine HT.out.mono ?_
      rintro e' w1 ⟨x, a', fl2, rfl, h1, ha', _, hc⟩
      obtain ⟨t, htv⟩ : ∃ t, ((x : Int) == 1) = t := ⟨_, rfl⟩
      have htd := told_next HTD.out hkn ha' hc htv
      have c0 := HasRR.cell2 h1 k (told_get ts 6 k HTS.out hkn)
      have f0 := HasRR.frozen2 h1 k
      obtain ⟨v1, h1⟩ := h1
      have h2 := h1.up2.set k (.bool t)
      rw [told_set ts 6 k t HTS.out hkn] at h2
      have H2 := Lib.hid h2.up2.up2
      have HD := Lib.hid htd
      clear h1 h2 htd hc HT HTD
      go_wp2_with fail
      try rw [HK.out]
      exact ⟨⟨k + 1, hkn, cast_succ k, a', fl2, ts ++ [t], by rw [List.length_append, HTS.out]; rfl, ha', HD, v1, H2.out⟩, succ_less hkn⟩
    · obtain rfl : k = 6 := Nat.le_antisymm hk (Nat.le_of_not_lt hkn)
      have h6 : (bools (ts ++ List.replicate (6 - 6) false)) = bools ts := by simp
      rw [h6] at hR
      obtain ⟨v6, h6'⟩ := hR
      have z0 := h6'.up4.cell 0 rfl
      have z1 := h6'.up4.cell 1 rfl
      have z2 := h6'.up4.cell 2 rfl
      have z3 := h6'.up4.cell 3 rfl
      have z4 := h6'.up4.cell 4 rfl
      have z5 := h6'.up4.cell 5 rfl
      have z6 := h6'.up4.cell 6 rfl
      have z7 := h6'.up4.cell 7 rfl
      have h7 := h6'.alloc [.int .i64 bs.id, .int .i64 bs.kind, .int .i64 bs.x, .int .i64 bs.y, .int .i64 bs.vx, .int .i64 bs.vy, .int .i64 bs.hp, .int .i64 bs.wt] 29
      have H7 := Lib.hid h7.up2.up2
      have HTS := Lib.hid hts
      clear h6 h6' h7 hts hk hkn
      rw [show ((6 : Nat) : Int) = 6 from rfl]
      go_wp2_with fail
      clear z0 z1 z2 z3 z4 z5 z6 z7
      generalize wr.alloc (.cells #[.int .i64 bs.id, .int .i64 bs.kind, .int .i64 bs.x, .int .i64 bs.y, .int .i64 bs.vx, .int .i64 bs.vy, .int .i64 bs.hp, .int .i64 bs.wt] 29) = w2 at *
      generalize wr.heap.size = g2 at *
      generalize w.heap.size + 1 + 1 = g at *
      go_loopw [9] (fun i wr => ∃ k : Nat, k ≤ 6 ∧ i = .int .i64 k ∧ ∃ (b n : Nat) (d : List Int), d.length = k ∧ b ≤ L.length ∧ Hid (b = a + n) ∧ Hid (TG (takeGo ts (fiL bs) (L.drop a)) (ts.drop k) ((fiL bs).drop k) ((L.drop a).drop n) d n) ∧
          HasRR W W.heap.size wr b1 L b fl' (.st g2 (withL bs (d ++ (fiL bs).drop k)).cells 29 :: .st g (bools ts) 86 :: .st (w.heap.size + 1) [.int .i64 0, .int .i64 0, .int .i64 0, .int .i64 0, .int .i64 0, .int .i64 0, .int .i64 0, .int .i64 0] 29 :: .st w.heap.size [.int .i64 bs.id, .int .i64 bs.kind, .int .i64 bs.x, .int .i64 bs.y, .int .i64 bs.vx, .int .i64 bs.vy, .int .i64 bs.hp, .int .i64 bs.wt] 29 :: F)) (fun i _ => 6 - (intOf i).toNat)
      case atStart => exact ⟨0, by decide, rfl, a, 0, [], rfl, ha, rfl, tg_start _ _ _, v6, H7.out⟩
      case round =>
        obtain ⟨k, hk, rfl, b, n, d, hd, hb, HBN, HTG, hR⟩ := hrel
        clear H7
        by_cases hkn : k < 6
        · obtain ⟨k0, k1, k2⟩ := kn_facts hkn (by decide)
          have k1' : (k : Int) < 6 := k1
          have HK := Lib.hid k2
          have htg := HTG.out
          rw [fiL_at bs k hkn, getD_at ts k (by rw [HTS.out]; exact hkn)] at htg
          obtain ⟨bk, hbk⟩ : ∃ bk, ts.getD k false = bk := ⟨_, rfl⟩
          rw [hbk] at htg
          have hbk2 : (bools ts)[k]? = some (.bool bk) := by
            have hlt : k < ts.length := by rw [HTS.out]; exact hkn
            rw [List.getD_eq_getElem?_getD, List.getElem?_eq_getElem hlt] at hbk
            exact bools_at (by rw [List.getElem?_eq_getElem hlt, ← hbk]; rfl)
          have ck : wr.cell? ⟨g, k, none⟩ = some (.bool bk) := by
            obtain ⟨_, h⟩ := hR
            exact h.up3.cell k hbk2
          clear hbk hbk2 k1 k2
          cases bk with
          | false =>
            have HQ := Lib.hid (tg_skip htg)
            have HR := Lib.hid hR
            have HDL := Lib.hid hd
            clear htg hR HTG hd
            go_wp2_with fail
            try rw [HK.out]
            refine ⟨⟨k + 1, hkn, cast_succ k, b, n, _, by rw [List.length_append, HDL.out]; rfl, hb, HBN, HQ.out, ?_⟩, succ_less hkn⟩
            have := HR.out
            rw [fiL_at bs k hkn] at this
            rw [List.append_assoc]
            exact this
          | true =>
            cases fl' with
            | true =>
              have hsm := rrsmall_fail W W.heap.size wr b1 L b _ hR
              have hno : fl = true ∨ takeE bs (L.drop at_) = none := by
                rcases HTD.out with ⟨h, _⟩ | ⟨_, h⟩
                · cases h
                · exact h.imp id (fun h => takeE_short (by rw [List.length_drop]; omega))
              have HNO := Lib.hid hno
              have HSM := Lib.hid hsm
              clear hno hsm htg hR HTG hd
              go_wp2_with fail
              refine HSM.out.mono ?_
              rintro e' w5 ⟨rfl, v5, h5⟩
              have H6 := Lib.hid h5
              clear h5 HSM
              have s0 := H6.out.up4
              have c0 := s0.cell 0 rfl
              have f0 := s0.frozen 0
              have s1 := s0.set 0 (.int .i64 0)
              have c1 := s1.cell 1 rfl
              have f1 := s1.frozen 1
              have s2 := s1.set 1 (.int .i64 0)
              have c2 := s2.cell 2 rfl
              have f2 := s2.frozen 2
              have s3 := s2.set 2 (.int .i64 0)
              have c3 := s3.cell 3 rfl
              have f3 := s3.frozen 3
              have s4 := s3.set 3 (.int .i64 0)
              have c4 := s4.cell 4 rfl
              have f4 := s4.frozen 4
              have s5 := s4.set 4 (.int .i64 0)
              have c5 := s5.cell 5 rfl
              have f5 := s5.frozen 5
              have s6 := s5.set 5 (.int .i64 0)
              have c6 := s6.cell 6 rfl
              have f6 := s6.frozen 6
              have s7 := s6.set 6 (.int .i64 0)
              have c7 := s7.cell 7 rfl
              have f7 := s7.frozen 7
              have s8 := s7.set 7 (.int .i64 0)
              simp only [List.set] at s8
              have S8 := Lib.hid s8
              clear s0 s1 s2 s3 s4 s5 s6 s7 s8
              go_wp2_with fail
              have hz := S8.out
              refine bodyPost_ret (Go.Proofs.YtfcncmhcmbghpaaW.PrintWords.results_ct rfl _ _ _ _ _ _ _ rfl hz.head.2 Try.underlying29 rfl (by kernel_rfl)) rfl ?_
              exact .inr ⟨HNO.out, rfl, hz.tail.tail.tail.tail.tail.tail⟩
            | false =>
              have hx6 : fl = false ∧ 6 ≤ (L.drop at_).length ∧ ts = (L.drop at_).take 6 ∧ L.drop a = (L.drop at_).drop 6 ∧ a = at_ + 6 := by
                rcases HTD.out with ⟨_, h0, h1, h2, h3⟩ | ⟨h, _⟩
                · refine ⟨h0, by rw [List.length_drop]; omega, h3, by rw [h1, List.drop_drop], h1⟩
                · cases h
              have hpos : L.drop b = (L.drop a).drop n := by rw [List.drop_drop, HBN.out]
              have hsm := rrsmall W W.heap.size wr b1 L b _ hR hb HL.out
              cases hrs : readS 0 (L.drop b) with
              | none =>
                rw [rg_none' hrs] at hsm
                have hno : takeE bs (L.drop at_) = none := takeE_bad (by rw [← hx6.2.2.1, ← hx6.2.2.2.1]; exact tg_none (by rw [← hpos]; exact hrs) htg)
                have HNO := Lib.hid (Or.inr (a := fl = true) hno)
                have HSM := Lib.hid hsm
                clear hno hsm hrs hx6 hpos htg hR HTG hd
                go_wp2_with fail
                refine HSM.out.mono ?_
                rintro e' w5 ⟨rfl, v5, h5⟩
                have H6 := Lib.hid h5
                clear h5 HSM
                have s0 := H6.out.up4
                have c0 := s0.cell 0 rfl
                have f0 := s0.frozen 0
                have s1 := s0.set 0 (.int .i64 0)
                have c1 := s1.cell 1 rfl
                have f1 := s1.frozen 1
                have s2 := s1.set 1 (.int .i64 0)
                have c2 := s2.cell 2 rfl
                have f2 := s2.frozen 2
                have s3 := s2.set 2 (.int .i64 0)
                have c3 := s3.cell 3 rfl
                have f3 := s3.frozen 3
                have s4 := s3.set 3 (.int .i64 0)
                have c4 := s4.cell 4 rfl
                have f4 := s4.frozen 4
                have s5 := s4.set 4 (.int .i64 0)
                have c5 := s5.cell 5 rfl
                have f5 := s5.frozen 5
                have s6 := s5.set 5 (.int .i64 0)
                have c6 := s6.cell 6 rfl
                have f6 := s6.frozen 6
                have s7 := s6.set 6 (.int .i64 0)
                have c7 := s7.cell 7 rfl
                have f7 := s7.frozen 7
                have s8 := s7.set 7 (.int .i64 0)
                simp only [List.set] at s8
                have S8 := Lib.hid s8
                clear s0 s1 s2 s3 s4 s5 s6 s7 s8
                go_wp2_with fail
                have hz := S8.out
                refine bodyPost_ret (Go.Proofs.YtfcncmhcmbghpaaW.PrintWords.results_ct rfl _ _ _ _ _ _ _ rfl hz.head.2 Try.underlying29 rfl (by kernel_rfl)) rfl ?_
                exact .inr ⟨HNO.out, rfl, hz.tail.tail.tail.tail.tail.tail⟩
              | some p =>
                obtain ⟨u, k2⟩ := p
                rw [rg_some hrs] at hsm
                by_cases h0 : unzig u = 0
                · have hno : takeE bs (L.drop at_) = none := takeE_bad (by rw [← hx6.2.2.1, ← hx6.2.2.2.1]; exact tg_zero (by rw [← hpos]; exact hrs) h0 htg)
                  rw [h0] at hsm
                  have HNO := Lib.hid (Or.inr (a := fl = true) hno)
                  have HSM := Lib.hid hsm
                  clear hno hsm hrs hx6 hpos htg hR HTG hd h0
                  go_wp2_with fail
                  refine HSM.out.mono ?_
                  rintro e' w5 ⟨rfl, v5, h5⟩
                  have H6 := Lib.hid h5
                  clear h5 HSM
                  have s0 := H6.out.up4
                  have c0 := s0.cell 0 rfl
                  have f0 := s0.frozen 0
                  have s1 := s0.set 0 (.int .i64 0)
                  have c1 := s1.cell 1 rfl
                  have f1 := s1.frozen 1
                  have s2 := s1.set 1 (.int .i64 0)
                  have c2 := s2.cell 2 rfl
                  have f2 := s2.frozen 2
                  have s3 := s2.set 2 (.int .i64 0)
                  have c3 := s3.cell 3 rfl
                  have f3 := s3.frozen 3
                  have s4 := s3.set 3 (.int .i64 0)
                  have c4 := s4.cell 4 rfl
                  have f4 := s4.frozen 4
                  have s5 := s4.set 4 (.int .i64 0)
                  have c5 := s5.cell 5 rfl
                  have f5 := s5.frozen 5
                  have s6 := s5.set 5 (.int .i64 0)
                  have c6 := s6.cell 6 rfl
                  have f6 := s6.frozen 6
                  have s7 := s6.set 6 (.int .i64 0)
                  have c7 := s7.cell 7 rfl
                  have f7 := s7.frozen 7
                  have s8 := s7.set 7 (.int .i64 0)
                  simp only [List.set] at s8
                  have S8 := Lib.hid s8
                  clear s0 s1 s2 s3 s4 s5 s6 s7 s8
                  go_wp2_with fail
                  have hz := S8.out
                  refine bodyPost_ret (Go.Proofs.YtfcncmhcmbghpaaW.PrintWords.results_ct rfl _ _ _ _ _ _ _ rfl hz.head.2 Try.underlying29 rfl (by kernel_rfl)) rfl ?_
                  exact .inr ⟨HNO.out, rfl, hz.tail.tail.tail.tail.tail.tail⟩
                · have hq := tg_next (by rw [← hpos]; exact hrs) h0 htg
                  rw [show ((L.drop a).drop n).drop (8 * k2) = (L.drop a).drop (n + 8 * k2) by rw [List.drop_drop]] at hq
                  have hb3 := read_le hrs hb
                  have t0 : (unzig u == 0) = false := beq_eq_false_iff_ne.2 h0
                  obtain ⟨X, hX⟩ : ∃ X, unzig u = X := ⟨_, rfl⟩
                  rw [hX] at hsm hq t0
                  obtain ⟨Y, hY⟩ : ∃ Y, wrap64 (fi bs k + X) = Y := ⟨_, rfl⟩
                  have hY2 : IntKind.i64.wrap (fi bs k + X) = Y := by rw [wrap_i64]; exact hY
                  rw [hY] at hq
                  obtain ⟨E, hE⟩ : ∃ E, withL bs (d ++ (fiL bs).drop k) = E := ⟨_, rfl⟩
                  have hfi := fi_withL bs d k hd hkn
                  obtain ⟨E2, hE2⟩ : ∃ E2, withL bs ((d ++ [Y]) ++ (fiL bs).drop (k + 1)) = E2 := ⟨_, rfl⟩
                  have hwt : ∀ wx, Calls Try.prog 61 #[.agg #[.int .i64 E.id, .int .i64 E.kind, .int .i64 E.x, .int .i64 E.y, .int .i64 E.vx, .int .i64 E.vy, .int .i64 E.hp, .int .i64 E.wt], .int .i64 (k : Int), .int .i64 Y] wx fun e' w' => e' = .returned (.agg #[.int .i64 E2.id, .int .i64 E2.kind, .int .i64 E2.x, .int .i64 E2.y, .int .i64 E2.vx, .int .i64 E2.vy, .int .i64 E2.hp, .int .i64 E2.wt]) ∧ Below wx.heap.size wx w' := fun wx => rwith wx bs d (fi bs k) Y ((fiL bs).drop (k + 1)) k hd (rest_len bs k hkn) E.val E2.val (by rw [← hE, fiL_at bs k hkn]) (by rw [← hE2])
                  rw [hE] at hfi
                  have hfd := fun wx => rfield wx E k hkn
                  rw [hfi] at hfd
                  rw [hE] at hsm
                  have HQ := Lib.hid hq
                  have HSM := Lib.hid hsm
                  have HB3 := Lib.hid (a_next (k := k2) HBN.out)
                  have HWT := Lib.hid hwt
                  have HFD := Lib.hid hfd
                  have HE2 := Lib.hid hE2
                  have HDL := Lib.hid hd
                  clear hq hsm hrs hx6 hpos htg hR HTG h0 hX hfi hwt hfd hE hE2 hd
                  go_wp2_with fail
                  refine HSM.out.mono ?_
                  rintro e' w5 ⟨rfl, hx⟩
                  have HX := Lib.hid hx
                  clear hx HSM
                  go_wp2_with fail
                  have hc0 := HasRR.cell2 HX.out 0 rfl
                  have E0 := cell_regrown (HasRR.cell2 HX.out 0 rfl)
                  have E1 := cell_regrown (HasRR.cell2 HX.out 1 rfl)
                  have E2' := cell_regrown (HasRR.cell2 HX.out 2 rfl)
                  have E3 := cell_regrown (HasRR.cell2 HX.out 3 rfl)
                  have E4 := cell_regrown (HasRR.cell2 HX.out 4 rfl)
                  have E5 := cell_regrown (HasRR.cell2 HX.out 5 rfl)
                  have E6 := cell_regrown (HasRR.cell2 HX.out 6 rfl)
                  have E7 := cell_regrown (HasRR.cell2 HX.out 7 rfl)
                  have HC : Hid (∀ (dd : Nat) (os : Array Obj), Calls Try.prog 45 #[.agg #[.int .i64 E.id, .int .i64 E.kind, .int .i64 E.x, .int .i64 E.y, .int .i64 E.vx, .int .i64 E.vy, .int .i64 E.hp, .int .i64 E.wt], .int .i64 (k : Int)] (grow (redrawn w5 dd) os) fun e w'' => e = .returned (.int .i64 (fi bs k)) ∧ ∃ p : Regrown, w'' = grow (redrawn w5 p.d) p.os) := fun dd os => Calls.regrown_of (HFD.out _)
                  have HD : Hid (∀ (dd : Nat) (os : Array Obj), Calls Try.prog 61 #[.agg #[.int .i64 E.id, .int .i64 E.kind, .int .i64 E.x, .int .i64 E.y, .int .i64 E.vx, .int .i64 E.vy, .int .i64 E.hp, .int .i64 E.wt], .int .i64 (k : Int), .int .i64 Y] (grow (redrawn w5 dd) os) fun e w'' => e = .returned (.agg #[.int .i64 E2.id, .int .i64 E2.kind, .int .i64 E2.x, .int .i64 E2.y, .int .i64 E2.vx, .int .i64 E2.vy, .int .i64 E2.hp, .int .i64 E2.wt]) ∧ ∃ p : Regrown, w'' = grow (redrawn w5 p.d) p.os) := fun dd os => Calls.regrown_of (HWT.out _)
                  refine QTail.region_tail_below 8 (by kernel_rfl) (by kernel_rfl) ?_
                  simp only [List.take_succ_cons, List.take_zero, List.drop_succ_cons, List.drop_zero]
                  repeat (go_big_quiet_step (first | (go_at_call 45; with_reducible exact HC.out _ _) | (go_at_call 61; with_reducible exact HD.out _ _)))
                  refine wpQuiet_nil ?_
                  intro _ hw'
                  obtain ⟨⟨dq, osq⟩, hw''⟩ := hw'
                  subst hw''
                  have hbx := below_regrown w5 dq osq
                  clear E0 E1 E2' E3 E4 E5 E6 E7 HC HD hc0
                  generalize grow (redrawn w5 dq) osq = w6 at *
                  obtain ⟨v9, h9⟩ := HasRR.belowed HX.out hbx
                  have s0 := h9.up2
                  have c0 := s0.cell 0 rfl
                  have f0 := s0.frozen 0
                  have c1 := s0.cell 1 rfl
                  have f1 := s0.frozen 1
                  have c2 := s0.cell 2 rfl
                  have f2 := s0.frozen 2
                  have c3 := s0.cell 3 rfl
                  have f3 := s0.frozen 3
                  have c4 := s0.cell 4 rfl
                  have f4 := s0.frozen 4
                  have c5 := s0.cell 5 rfl
                  have f5 := s0.frozen 5
                  have c6 := s0.cell 6 rfl
                  have f6 := s0.frozen 6
                  have c7 := s0.cell 7 rfl
                  have f7 := s0.frozen 7
                  have s8 := (((((((s0.set 0 (.int .i64 E2.id)).set 1 (.int .i64 E2.kind)).set 2 (.int .i64 E2.x)).set 3 (.int .i64 E2.y)).set 4 (.int .i64 E2.vx)).set 5 (.int .i64 E2.vy)).set 6 (.int .i64 E2.hp)).set 7 (.int .i64 E2.wt)
                  simp only [Enty.cells, List.set] at s8
                  have S8 := Lib.hid s8.up2.up2
                  clear h9 s0 s8 HX hbx HFD HWT
                  go_wp2_with fail
                  try rw [HK.out]
                  refine ⟨⟨k + 1, hkn, cast_succ k, _, _, d ++ [Y], by rw [List.length_append, HDL.out]; rfl, hb3, HB3.out, HQ.out, v9, ?_⟩, succ_less hkn⟩
                  rw [HE2.out]
                  exact S8.out
        · obtain rfl : k = 6 := Nat.le_antisymm hk (Nat.le_of_not_lt hkn)
          obtain ⟨x0, x1, x2, x3, x4, x5, rfl⟩ := six_of hd
          have htg := HTG.out
          rw [show (fiL bs).drop 6 = [] from rfl, List.drop_eq_nil_of_le (show ts.length ≤ 6 by rw [HTS.out]; exact Nat.le_refl _)] at htg
          have hend := tg_end htg
          have hE : withL bs ([x0, x1, x2, x3, x4, x5] ++ (fiL bs).drop 6) = ⟨bs.id, bs.kind, x0, x1, x2, x3, x4, x5⟩ := rfl
          rw [hE] at hR
          obtain ⟨v6, h6⟩ := hR
          obtain ⟨A6, cp6, rfl⟩ := h6.up1.slice
          have z2 := h6.cell 2 rfl
          have q0 := h6.up2.cell 0 rfl
          have q1 := h6.up2.cell 1 rfl
          have q2 := h6.up2.cell 2 rfl
          have q3 := h6.up2.cell 3 rfl
          have q4 := h6.up2.cell 4 rfl
          have q5 := h6.up2.cell 5 rfl
          have q6 := h6.up2.cell 6 rfl
          have q7 := h6.up2.cell 7 rfl
          have H6 := Lib.hid h6
          rw [show ((6 : Nat) : Int) = 6 from rfl]
          cases fl' with
          | true =>
            have hno : fl = true ∨ takeE bs (L.drop at_) = none := by
              rcases HTD.out with ⟨h, _⟩ | ⟨_, h⟩
              · cases h
              · exact h.imp id (fun h => takeE_short (by rw [List.length_drop]; omega))
            have HNO := Lib.hid hno
            clear h6 hno hE hend htg HTG
            have s0 := H6.out.up4
            have c0 := s0.cell 0 rfl
            have f0 := s0.frozen 0
            have s1 := s0.set 0 (.int .i64 0)
            have c1 := s1.cell 1 rfl
            have f1 := s1.frozen 1
            have s2 := s1.set 1 (.int .i64 0)
            have c2 := s2.cell 2 rfl
            have f2 := s2.frozen 2
            have s3 := s2.set 2 (.int .i64 0)
            have c3 := s3.cell 3 rfl
            have f3 := s3.frozen 3
            have s4 := s3.set 3 (.int .i64 0)
            have c4 := s4.cell 4 rfl
            have f4 := s4.frozen 4
            have s5 := s4.set 4 (.int .i64 0)
            have c5 := s5.cell 5 rfl
            have f5 := s5.frozen 5
            have s6 := s5.set 5 (.int .i64 0)
            have c6 := s6.cell 6 rfl
            have f6 := s6.frozen 6
            have s7 := s6.set 6 (.int .i64 0)
            have c7 := s7.cell 7 rfl
            have f7 := s7.frozen 7
            have s8 := s7.set 7 (.int .i64 0)
            simp only [List.set] at s8
            have S8 := Lib.hid s8
            clear s0 s1 s2 s3 s4 s5 s6 s7 s8
            go_wp2_with fail
            have hz := S8.out
            refine bodyPost_ret (Go.Proofs.YtfcncmhcmbghpaaW.PrintWords.results_ct rfl _ _ _ _ _ _ _ rfl hz.head.2 Try.underlying29 rfl (by kernel_rfl)) rfl ?_
            exact .inr ⟨HNO.out, rfl, hz.tail.tail.tail.tail.tail.tail⟩
          | false =>
            have hx6 : fl = false ∧ 6 ≤ (L.drop at_).length ∧ ts = (L.drop at_).take 6 ∧ L.drop a = (L.drop at_).drop 6 ∧ a = at_ + 6 := by
              rcases HTD.out with ⟨_, h0, h1, h2, h3⟩ | ⟨h, _⟩
              · refine ⟨h0, by rw [List.length_drop]; omega, h3, by rw [h1, List.drop_drop], h1⟩
              · cases h
            have hte := takeE_end (bs := bs) hx6.2.1 (by rw [← hx6.2.2.1, ← hx6.2.2.2.1]; exact hend)
            rw [show withL bs [x0, x1, x2, x3, x4, x5] = ⟨bs.id, bs.kind, x0, x1, x2, x3, x4, x5⟩ from rfl] at hte
            have hpos : b = at_ + (6 + n) := by rw [HBN.out, hx6.2.2.2.2]; omega
            have HPOS := Lib.hid hpos
            have HFL := Lib.hid hx6.1
            have hf := erformed wr ⟨bs.id, bs.kind, x0, x1, x2, x3, x4, x5⟩
            by_cases hfe : EFrm ⟨bs.id, bs.kind, x0, x1, x2, x3, x4, x5⟩
            · rw [if_pos hfe] at hte
              rw [decide_eq_true hfe] at hf
              have HTE := Lib.hid hte
              have HF := Lib.hid hf
              clear h6 hte hfe hf hx6 hpos hend hE htg HTG
              go_wp2_with fail
              refine HF.out.mono ?_
              rintro e' w8 ⟨rfl, h8⟩
              have h9 := hbelowed H6.out h8
              have p0 := h9.up2.cell 0 rfl
              have p1 := h9.up2.cell 1 rfl
              have p2 := h9.up2.cell 2 rfl
              have p3 := h9.up2.cell 3 rfl
              have p4 := h9.up2.cell 4 rfl
              have p5 := h9.up2.cell 5 rfl
              have p6 := h9.up2.cell 6 rfl
              have p7 := h9.up2.cell 7 rfl
              have s0 := h9.up4
              have c0 := s0.cell 0 rfl
              have f0 := s0.frozen 0
              have s1 := s0.set 0 (.int .i64 bs.id)
              have c1 := s1.cell 1 rfl
              have f1 := s1.frozen 1
              have s2 := s1.set 1 (.int .i64 bs.kind)
              have c2 := s2.cell 2 rfl
              have f2 := s2.frozen 2
              have s3 := s2.set 2 (.int .i64 x0)
              have c3 := s3.cell 3 rfl
              have f3 := s3.frozen 3
              have s4 := s3.set 3 (.int .i64 x1)
              have c4 := s4.cell 4 rfl
              have f4 := s4.frozen 4
              have s5 := s4.set 4 (.int .i64 x2)
              have c5 := s5.cell 5 rfl
              have f5 := s5.frozen 5
              have s6 := s5.set 5 (.int .i64 x3)
              have c6 := s6.cell 6 rfl
              have f6 := s6.frozen 6
              have s7 := s6.set 6 (.int .i64 x4)
              have c7 := s7.cell 7 rfl
              have f7 := s7.frozen 7
              have s8 := s7.set 7 (.int .i64 x5)
              simp only [List.set] at s8
              have S8 := Lib.hid s8
              clear s0 s1 s2 s3 s4 s5 s6 s7 s8
              clear h8 h9 q0 q1 q2 q3 q4 q5 q6 q7 z2
              go_wp2_with fail
              have hz := S8.out
              refine bodyPost_ret (Go.Proofs.YtfcncmhcmbghpaaW.PrintWords.results_ct rfl _ _ _ _ _ _ _ rfl hz.head.2 Try.underlying29 rfl (by kernel_rfl)) rfl ?_
              refine .inl ⟨_, _, HFL.out, HTE.out, by rw [← HPOS.out]; exact hb, rfl, .slice A6 L.length cp6, ?_⟩
              rw [← HPOS.out]
              exact hz.tail.up2.tail.up2.tail.up2.tail
            · rw [if_neg hfe] at hte
              rw [decide_eq_false hfe] at hf
              have HNO := Lib.hid (Or.inr (a := fl = true) hte)
              have HF := Lib.hid hf
              clear h6 hte hfe hf hx6 hpos hend hE htg HTG
              go_wp2_with fail
              refine HF.out.mono ?_
              rintro e' w8 ⟨rfl, h8⟩
              have h9 := hbelowed H6.out h8
              have s0 := h9.up4
              have c0 := s0.cell 0 rfl
              have f0 := s0.frozen 0
              have s1 := s0.set 0 (.int .i64 0)
              have c1 := s1.cell 1 rfl
              have f1 := s1.frozen 1
              have s2 := s1.set 1 (.int .i64 0)
              have c2 := s2.cell 2 rfl
              have f2 := s2.frozen 2
              have s3 := s2.set 2 (.int .i64 0)
              have c3 := s3.cell 3 rfl
              have f3 := s3.frozen 3
              have s4 := s3.set 3 (.int .i64 0)
              have c4 := s4.cell 4 rfl
              have f4 := s4.frozen 4
              have s5 := s4.set 4 (.int .i64 0)
              have c5 := s5.cell 5 rfl
              have f5 := s5.frozen 5
              have s6 := s5.set 5 (.int .i64 0)
              have c6 := s6.cell 6 rfl
              have f6 := s6.frozen 6
              have s7 := s6.set 6 (.int .i64 0)
              have c7 := s7.cell 7 rfl
              have f7 := s7.frozen 7
              have s8 := s7.set 7 (.int .i64 0)
              simp only [List.set] at s8
              have S8 := Lib.hid s8
              clear s0 s1 s2 s3 s4 s5 s6 s7 s8 h8 h9 q0 q1 q2 q3 q4 q5 q6 q7 z2
              go_wp2_with fail
              have hz := S8.out
              refine bodyPost_ret (Go.Proofs.YtfcncmhcmbghpaaW.PrintWords.results_ct rfl _ _ _ _ _ _ _ rfl hz.head.2 Try.underlying29 rfl (by kernel_rfl)) rfl ?_
              exact .inr ⟨HNO.out, rfl, hz.tail.tail.tail.tail.tail.tail⟩

end Go.Proofs.Ytfcncmhcmbghpaa.Ents
