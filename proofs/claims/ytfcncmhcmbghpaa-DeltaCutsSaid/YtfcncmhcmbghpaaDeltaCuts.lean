/- The law DeltaCuts: a delta's bytes with the last one cut off, or with one more, are refused. For all lists and bytes; no condition. Here: the walk. -/
import Derived.Test.YtfcncmhcmbghpaaDeltaBack
set_option linter.unusedVariables false
set_option linter.unusedSimpArgs false
namespace Go.Proofs.Ytfcncmhcmbghpaa.Ents
open Go.Sort Go.RowKit Go.Proofs.Ytfcncmhcmbghpaa.Mem Go.Proofs.Ytfcncmhcmbghpaa.Open Go.Proofs.Ytfcncmhcmbghpaa.OpenB Go.Proofs.Ytfcncmhcmbghpaa.Num Go.Proofs.Ytfcncmhcmbghpaa.Step Go.Proofs.Ytfcncmhcmbghpaa.Wr Go.Proofs.Ytfcncmhcmbghpaa.Bits Go.Proofs.YtfcncmhcmbghpaaW.PrintWords

theorem info_u8' : (Try.prog.info? 5).map (fun i => (i.zero, i.size, i.bytes)) = some (some (.int .u8 0), 1, 1) := by kernel_rfl
theorem rd_cut {w : World} {ad : Addr} {n c : Nat} {cs : List Value} (h : Rd w (.slice (some ad) n c) n cs) (k : Nat) (hk : k ≤ n) : Rd w (.slice (some ad) k c) k (cs.take k) := by
  rcases h with ⟨h, _⟩ | ⟨ad', c', h, hc, hm, hr⟩
  · cases h
  · simp only [Value.slice.injEq, Option.some.injEq, true_and] at h
    obtain ⟨rfl, rfl⟩ := h
    refine .inr ⟨ad, c, rfl, Nat.le_trans hk hc, hm, fun j u hu => ?_⟩
    rw [List.getElem?_take] at hu
    split at hu
    · exact hr j u hu
    · cases hu
theorem cut_facts {n k : Nat} (hn : n = k + 1) (h : n ≤ 100000) : IntKind.i64.wrap ((n : Int) - 1) = (k : Int) ∧ wrap64 ((n : Int) - 1) = (k : Int) ∧ (0 : Int) ≤ (k : Int) ∧ (k : Int) < (n : Int) ∧ (k : Int) ≤ (n : Int) ∧ (n : Int) - 1 = (k : Int) := by
  rw [wrap_i64]; unfold wrap64; omega
theorem rd_cells {w : World} {ad : Addr} {n c : Nat} {cs : List Value} (h : Rd w (.slice (some ad) n c) n cs) : ∀ j u, cs[j]? = some u → w.cell? (ad.add j) = some u := by
  rcases h with ⟨h, _⟩ | ⟨ad', c', h, _, _, hr⟩
  · cases h
  · simp only [Value.slice.injEq, Option.some.injEq, true_and] at h
    obtain ⟨rfl, rfl⟩ := h
    exact hr
theorem Ent.ok.lower {x : Ent} {B B' : Nat} {w : World} (h : x.ok B w) (hb : B' ≤ B) : x.ok B' w := by
  cases x with
  | st b cs e => exact ⟨Nat.le_trans hb h.1, h.2⟩
  | rw v e size n xs =>
    refine ⟨h.1, ?_⟩
    rcases h.2 with h | ⟨g, cap, cur, h1, h2, h3⟩
    · exact .inl h
    · exact .inr ⟨g, cap, cur, h1, Nat.le_trans hb h2, h3⟩
  | qu v e xs =>
    rcases h with h | ⟨g, off, cap, cur, h1, h2, h3⟩
    · exact .inl h
    · exact .inr ⟨g, off, cap, cur, h1, Nat.le_trans hb h2, h3⟩
theorem Holds.then_below {W w1 w2 : World} {H : List Ent} (h1 : Below W.heap.size W w1) (h : Holds w1 w1.heap.size w2 H) : Holds W W.heap.size w2 H := 
  ⟨h1.trans (h.below.mono h1.size), Nat.le_trans h1.size h.size, fun e he => Ent.ok.lower (h.each e he) h1.size, h.nodup⟩
theorem nums_one (l : List Int) : ∀ u, u ∈ nums .u8 l → u.oneCell' = true := by
  intro u hu
  simp only [nums, List.mem_map] at hu
  obtain ⟨x, _, rfl⟩ := hu
  rfl
theorem nby_small {base l : List Enty} (h : l.length ≤ 40) : nby (encB base l) ≤ 10000 ∧ ∃ k, nby (encB base l) = k + 1 := by
  have h1 := each_len base l
  have h2 : (encB base l).length ≤ 16 + 486 * 40 := by unfold encB; rw [List.length_append, there_len]; omega
  have h3 := encB_len base l
  refine ⟨by unfold nby; omega, nby (encB base l) - 1, by unfold nby; omega⟩

set_option maxHeartbeats 2000000 in
theorem deltaCuts_core (w : World) (vb vl : Value) (base l : List Enty) (x : Int) (hvb : RdL w vb 8 (base.map Enty.cells)) (hvl : RdL w vl 8 (l.map Enty.cells)) (hx0 : 0 ≤ x) (hx1 : x < 256) :
    Calls Try.prog 11 #[vb, vl, .int .u8 x] w fun e' w' => e' = .returned (.bool true) ∧ Below w.heap.size w w' := by
  obtain ⟨i0, hi, hz0, hz1, hz2⟩ := info_parts info_u8'
  have HVB := Lib.hid hvb
  have HVL := Lib.hid hvl
  obtain ⟨A, c, rfl, _, _, _⟩ := cells_at hvb
  obtain ⟨A', c', rfl, _, _, _⟩ := cells_at hvl
  clear hvb hvl
  by_cases hb1 : 40 < base.length
  · have t1 : decide ((40 : Int) < (base.length : Int)) = true := by simp; omega
    go_enter Try.func11, Try.ntmps11
    go_wp2_with fail
    refine (awake17 _).mono ?_
    rintro e' w1 ⟨rfl, h1⟩
    go_wp2_with fail
    refine (awake17 _).mono ?_
    rintro e' w3 ⟨rfl, h4⟩
    go_wp2_with fail
    go_ret
    exact ⟨rfl, h1.trans (h4.mono h1.size)⟩
  · have t1 : decide ((40 : Int) < (base.length : Int)) = false := by simp; omega
    by_cases hb2 : 40 < l.length
    · have t2 : decide ((40 : Int) < (l.length : Int)) = true := by simp; omega
      go_enter Try.func11, Try.ntmps11
      go_wp2_with fail
      refine (awake17 _).mono ?_
      rintro e' w1 ⟨rfl, h1⟩
      go_wp2_with fail
      refine (awake17 _).mono ?_
      rintro e' w3 ⟨rfl, h4⟩
      go_wp2_with fail
      go_ret
      exact ⟨rfl, h1.trans (h4.mono h1.size)⟩
    · have t2 : decide ((40 : Int) < (l.length : Int)) = false := by simp; omega
      have H40 := Lib.hid (show l.length ≤ 40 by omega)
      have HX := Lib.hid (And.intro hx0 hx1)
      clear hb1 hb2 hx0 hx1
      by_cases hf : listB base = true ∧ listB l = true
      · obtain ⟨hf1, hf2⟩ := hf
        have HF1 := Lib.hid hf1
        have HF2 := Lib.hid hf2
        clear hf1 hf2
        go_enter Try.func11, Try.ntmps11
        go_wp2_with fail
        refine (awake17 _).mono ?_
        rintro e' w1 ⟨rfl, h1⟩
        have he := eenc w1 _ _ base l (RdL.below HVB.out h1) (RdL.below HVL.out h1) HF1.out HF2.out H40.out
        have HE := Lib.hid he
        have H1 := Lib.hid h1
        clear he h1
        go_wp2_with fail
        refine HE.out.mono ?_
        rintro e' w2 ⟨v2, rfl, h2⟩
        obtain ⟨hn1, k, hnk⟩ := nby_small (base := base) H40.out
        have hpl := pack_length (encB base l)
        obtain ⟨n, hn⟩ : ∃ n, nby (encB base l) = n := ⟨_, rfl⟩
        rw [hn] at h2 hn1 hnk hpl
        obtain ⟨g2, c2, rfl, hc2, _, _⟩ := h2.row (by rw [hnk]; exact Nat.succ_pos k)
        have h3 := (Holds.then_below H1.out h2).nilrow 5 1
        have r3 := (h3.up1).rd
        have HR3 := Lib.hid r3
        have HPL := Lib.hid hpl
        have H3 := Lib.hid h3
        have HNK := Lib.hid hnk
        have HN1 := Lib.hid hn1
        have HC2 := Lib.hid hc2
        clear h2 h3 r3 hpl hn hnk hn1 hc2 HE H1
        go_wp2_with (at_builtin; refine wpList_append_many rfl _ _ _ rfl 5 i0 _ 1 1 Try.underlying35 hi hz0 hz1 hz2 rfl (by decide) rfl H3.out (nums .u8 (pack (encB base l))) rfl ?c1 ?c2 ?c3 ?c4 ?c5 ?_)
        case c1 => rw [nums_length, HPL.out, Nat.mul_one]
        case c2 => exact rd_cells HR3.out
        case c3 => exact nums_one _
        case c4 => rw [Nat.zero_add]; exact Nat.le_trans HN1.out (by decide)
        case c5 => decide
        intro v4 w4 h4
        try simp only [Nat.zero_add, List.nil_append] at h4
        have H4 := Lib.hid h4
        have H5 := Lib.hid (h4.alloc' (.cells #[.int .u8 x] 5))
        clear h4 H3
        obtain ⟨A4, c4, rfl⟩ := H4.out.slice
        go_wp2_with (at_builtin; refine wpList_append_one rfl _ _ _ rfl 5 i0 _ 1 1 Try.underlying35 hi hz0 hz1 hz2 rfl (by decide) rfl H5.out [.int .u8 x] rfl rfl ?c1 ?c2 ?c3 ?c4 ?_)
        case c1 => intro j' u hu; refine cell_one_at rfl ?_; simpa using hu
        case c2 => intro u hu; simp at hu; rw [hu]; rfl
        case c3 => exact Nat.le_trans (Nat.succ_le_succ HN1.out) (by decide)
        case c4 => decide
        intro v6 w6 h6
        obtain ⟨A6, c6, rfl⟩ := h6.slice
        have hb6 := h6.below
        obtain ⟨n1, n2, n3, n4, n5, n6⟩ := cut_facts HNK.out (Nat.le_trans HN1.out (by decide))
        have n7 : (k : Int) ≤ (c2 : Int) := Int.le_trans n5 (Int.ofNat_le.2 HC2.out)
        have rb := rd_cut h6.up1.rd k (Int.ofNat_le.1 n5)
        have hkl : ((pack (encB base l)).dropLast).length = k := by rw [List.length_dropLast, HPL.out, HNK.out]; rfl
        have hde := edec w6 (.slice A base.length c) (.slice (some ⟨g2, 0, none⟩) k c2) base ((pack (encB base l)).dropLast) (RdL.below HVB.out hb6) (by rw [hkl, List.dropLast_eq_take, HPL.out, HNK.out, Nat.add_sub_cancel]; unfold nums at rb ⊢; rw [List.map_take]; exact rb) ⟨by rw [hkl]; exact Nat.le_trans (Int.ofNat_le.1 n5) (Nat.le_trans HN1.out (by decide)), fun y hy => pack_byte _ y (List.mem_of_mem_take (by rw [List.dropLast_eq_take] at hy; exact hy))⟩ HF1.out
        rw [dec_cut ((listB_true _).1 HF1.out) ((listB_true _).1 HF2.out)] at hde
        have hlong : Rd w6 (.slice A6 (n + 1) c6) (pack (encB base l) ++ [x]).length (nums .u8 (pack (encB base l) ++ [x])) := by
          have := h6.rd
          rw [List.length_append, HPL.out]
          unfold nums at this ⊢
          rw [List.map_append]
          exact this
        have HL := Lib.hid hlong
        have HDE := Lib.hid hde
        have HB6 := Lib.hid hb6
        clear h6 hb6 rb hkl hde hlong H4 H5 n4 n5 n6
        go_wp2_with fail
        refine HDE.out.mono ?_
        rintro e' w7 (⟨m, v7, hm, _⟩ | ⟨hno, rfl, h7⟩)
        · cases hm
        · have hb7 := HB6.out.trans (h7.mono HB6.out.size)
          have hd2 := edec w7 (.slice A base.length c) (.slice A6 (n + 1) c6) base (pack (encB base l) ++ [x]) (RdL.below HVB.out hb7) (Rd.below HL.out h7) ⟨by rw [List.length_append, HPL.out]; exact Nat.le_trans (Nat.succ_le_succ HN1.out) (by decide), fun y hy => by
            rcases List.mem_append.1 hy with hy | hy
            · exact pack_byte _ y hy
            · rw [List.mem_singleton.1 hy]; exact HX.out⟩ HF1.out
          rw [dec_more ((listB_true _).1 HF1.out) ((listB_true _).1 HF2.out)] at hd2
          have HD2 := Lib.hid hd2
          have HB7 := Lib.hid hb7
          clear hno h7 hb7 hd2 HL HDE HB6
          go_wp2_with fail
          refine HD2.out.mono ?_
          rintro e' w8 (⟨m, v8, hm, _⟩ | ⟨hno, rfl, h8⟩)
          · cases hm
          · have HB8 := Lib.hid (HB7.out.trans (h8.mono HB7.out.size))
            clear hno h8 HD2
            go_wp2_with fail
            go_ret
            exact ⟨rfl, HB8.out⟩
      · have HNO := Lib.hid hf
        clear hf
        go_enter Try.func11, Try.ntmps11
        go_wp2_with fail
        refine (awake17 _).mono ?_
        rintro e' w1 ⟨rfl, h1⟩
        have he := eenc_no w1 _ _ base l (RdL.below HVB.out h1) (RdL.below HVL.out h1) HNO.out
        have HE := Lib.hid he
        have H1 := Lib.hid h1
        clear he h1
        go_wp2_with fail
        refine HE.out.mono ?_
        rintro e' w2 ⟨rfl, h2⟩
        have HB2 := Lib.hid (H1.out.trans (h2.mono H1.out.size))
        clear h2 HE H1
        go_wp2_with fail
        go_ret
        exact ⟨rfl, HB2.out⟩

theorem deltaCuts (w : World) {H : Type} {enc : TypeId × Value → H} {base base' base2 base2' : Nat} {sp sp2 : Nat → Bool} {held held2 : Bool} {d d2 : DataW H} {ps ps2 : List MemPlace} {r r2 : Reach} (v0 : Value)
    (hok0 : Value.okWide Try.prog w r base' 22 v0) (h0 : DataW.Trod enc Try.prog w base sp held 22 v0 d ps) (v : Value)
    (hok : Value.okWide Try.prog w r2 base2' 22 v) (h : DataW.Trod enc Try.prog w base2 sp2 held2 22 v d2 ps2) (x : Int) (wx : (Lit.int .u8 x).wf = true) :
    Calls Try.prog 11 #[v0, v, .int .u8 x] w fun e' w' => e' = .returned (.bool true) ∧ Below w.heap.size w w' := by
  obtain ⟨lb, hvb, _⟩ := open_ents hok0 h0
  obtain ⟨l, hvl, _⟩ := open_ents hok h
  simp [Lit.wf, IntKind.min, IntKind.max, IntKind.signed, IntKind.bits] at wx
  exact deltaCuts_core w v0 v lb l x hvb hvl (by omega) (by omega)

end Go.Proofs.Ytfcncmhcmbghpaa.Ents
