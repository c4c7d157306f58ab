/- The reference's sender of lines: what Put puts. -/
import Derived.Test.YtpnnalkihcemhaaStrRef
import Derived.Deep.Cut
set_option linter.unusedVariables false
set_option linter.unusedSimpArgs false
namespace Go.Proofs.Ytpnnalkihcemhaa.Str
open Go.Sort Go.RowKit Go.Proofs.Ytpnnalkihcemhaa.Mem Go.Proofs.Ytpnnalkihcemhaa.Bits Go.Proofs.Ytpnnalkihcemhaa.Wr Go.Proofs.Ytpnnalkihcemhaa.Num Go.Proofs.Ytpnnalkihcemhaa.Step Go.Proofs.YtpnnalkihcemhaaW.PrintWords

theorem s_facts {g n a : Nat} (h : g + n ≤ a) (ha : a ≤ 300) : (g : Int) + (n : Int) = ((g + n : Nat) : Int) ∧ IntKind.i64.wrap ((g + n : Nat) : Int) = ((g + n : Nat) : Int) ∧ wrap64 ((g + n : Nat) : Int) = ((g + n : Nat) : Int) := by
  rw [wrap_i64]; unfold wrap64; omega
theorem x_facts {g k n x m a : Nat} (hx : g + k = x) (hm : g + n = m) (hk : k < n) (ha : m ≤ a) (h3 : a ≤ 300) :
    (0 : Int) ≤ (x : Int) ∧ (x : Int) < (m : Int) ∧ (x : Int) < (a : Int) ∧ wrap64 ((x : Int) + 1) = (x : Int) + 1 ∧ IntKind.i64.wrap ((x : Int) + 1) = (x : Int) + 1 ∧ x < a := by
  rw [wrap_i64]; unfold wrap64; omega
theorem g_facts {g g1 : Nat} (h : g ≤ 300) (hg : g + 1 = g1) : IntKind.i64.wrap ((g : Int) + 1) = (g1 : Int) ∧ wrap64 ((g : Int) + 1) = (g1 : Int) ∧ (g : Int) + 1 = (g1 : Int) ∧ IntKind.u64.wrap (g1 : Int) = (g1 : Int) ∧ (g1 : Int) % 18446744073709551616 = (g1 : Int) ∧ IntKind.i64.wrap (g1 : Int) = (g1 : Int) ∧ wrap64 (g1 : Int) = (g1 : Int) ∧ (g1 : Int) < 18446744073709551616 := by
  rw [wrap_i64, wrap_i64, wrap_u64]; unfold wrap64; omega
theorem drop_fits {l : List ByteArray} (h : Fits l) (g : Nat) : Fits (l.drop g) := fun t ht => h t (List.mem_of_mem_drop ht)
theorem meas {m x : Nat} (h : x < m) : m - (intOf (.int .i64 ((x : Int) + 1))).toNat < m - (intOf (.int .i64 (x : Int))).toNat := by simp [intOf]; omega

theorem g_self {g a : Nat} (h : g ≤ a) (h3 : a ≤ 300) : IntKind.i64.wrap (g : Int) = (g : Int) ∧ wrap64 (g : Int) = (g : Int) := by rw [wrap_i64]; unfold wrap64; omega
theorem len_okr {M L : List Bool} {l : List ByteArray} {k n : Nat} (h1 : M.length ≤ L.length + 35) (h2 : L.length + 10000 ≤ 1000000000) (hf : Fits l) (h3 : n ≤ 7) (h4 : k ≤ n) : (M ++ linesB l k).length + 64 ≤ 1000000000 := by
  rw [List.length_append]; have := linesB_length hf k; omega
theorem len_okr2 {M L : List Bool} {l : List ByteArray} {k n j : Nat} {t : ByteArray} (h1 : M.length ≤ L.length + 35) (h2 : L.length + 10000 ≤ 1000000000) (hf : Fits l) (h3 : n ≤ 7) (h4 : k ≤ n) (h5 : t.size ≤ 60) (h6 : j ≤ t.size) :
    (M ++ linesB l k ++ bitsOf (t.size : Int) (6 : Int).toNat ++ charsB t j).length + 64 ≤ 1000000000 := by
  rw [List.length_append, List.length_append, List.length_append, bitsOf_length, charsB_length]; have := linesB_length hf k
  have e : (6 : Int).toNat = 6 := rfl
  omega

set_option maxHeartbeats 4000000 in
theorem rsput (W : World) (B : Nat) (w : World) (b wb : Nat) (e : TypeId) (all : List ByteArray) (gone : Nat) (F : List Ent) (L : List Bool) (hg : gone ≤ all.length) (hl : all.length ≤ 300) (hf : Fits all)
    (hW : ∃ v, HasB W B w wb e L (.st b [v, .int .i64 (gone : Int)] 68 :: .rw v 9 1 all.length (strs all) :: F)) (hL : L.length + 10000 ≤ 1000000000) :
    Calls Try.prog 28 #[.pointer (some ⟨b, 0, none⟩), .pointer (some ⟨wb, 0, none⟩)] w fun e' w' => e' = .returned (.tuple #[]) ∧ ∃ v, HasB W B w' wb e (L ++ sendB (gone : Int) (all.drop gone) (sendN (all.drop gone))) (.st b [v, .int .i64 (gone : Int)] 68 :: .rw v 9 1 all.length (strs all) :: F) := by
  obtain ⟨v, hw⟩ := hW
  obtain ⟨vw, hH⟩ := hw
  obtain ⟨A, c, rfl⟩ := hH.up3.slice
  have hdl : (all.drop gone).length = all.length - gone := List.length_drop
  have hll := drop_fits hf gone
  obtain ⟨l, hldef⟩ : ∃ l, all.drop gone = l := ⟨_, rfl⟩
  rw [hldef] at hdl hll ⊢
  obtain ⟨d, hd⟩ : ∃ d, all.length - gone = d := ⟨_, rfl⟩
  obtain ⟨x1, x2, x3, x4⟩ := q_facts hg (show all.length ≤ 1000 by omega)
  rw [hd] at x1 x2 x3 x4 hdl
  have E0 := cell_regrown (hH.up2.cell 0 rfl)
  have E1 := cell_regrown (hH.up2.cell 1 rfl)
  have HW0 : Hid (HasB W B w wb e L (.st b [.slice A all.length c, .int .i64 (gone : Int)] 68 :: .rw (.slice A all.length c) 9 1 all.length (strs all) :: F)) := ⟨vw, hH⟩
  have HLL := Lib.hid hL
  have HF := Lib.hid hll
  have HLD := Lib.hid hldef
  have HAL := Lib.hid (And.intro hg hl)
  have HD := Lib.hid hd
  have HDL := Lib.hid hdl
  have HGF : Hid (∃ g1 : Nat, IntKind.i64.wrap ((gone : Int) + 1) = (g1 : Int) ∧ wrap64 ((gone : Int) + 1) = (g1 : Int) ∧ (gone : Int) + 1 = (g1 : Int) ∧ IntKind.u64.wrap (g1 : Int) = (g1 : Int) ∧ (g1 : Int) % 18446744073709551616 = (g1 : Int) ∧ IntKind.i64.wrap (g1 : Int) = (g1 : Int) ∧ wrap64 (g1 : Int) = (g1 : Int) ∧ (g1 : Int) < 18446744073709551616) := ⟨gone + 1, g_facts (show gone ≤ 300 by omega) rfl⟩
  clear hH hL hf hll hldef hg hl hd
  by_cases h7 : 7 < d
  case' pos =>
    obtain ⟨n, hn⟩ : ∃ n : Nat, n = 7 := ⟨_, rfl⟩
    have t7 : decide ((7 : Int) < (d : Int)) = true := by simp; omega
    have t7' : (7 : Int) < (d : Int) := by omega
    have h7n : (7 : Int) = ((n : Nat) : Int) := by rw [hn]; rfl
    have H7N := Lib.hid h7n
    clear h7n
    have hsn : n = sendN l := by unfold sendN; omega
    have hnd : n ≤ d := by omega
    have HSN := Lib.hid hsn
    have HND := Lib.hid hnd
    have HN := Lib.hid hn
    clear hdl h7 hsn hnd hn
    go_enter Try.func28, Try.ntmps28
    go_wp2_with fail
    refine wp_region_quiet_below (by kernel_rfl) (by kernel_rfl) ?_
    repeat (go_big_quiet_step (fail))
    refine wpQuiet_nil ?_
    intro _ hw'
    obtain ⟨⟨dq, osq⟩, hw''⟩ := hw'
    subst hw''
    have hbx := below_regrown w dq osq
    clear E0 E1
    generalize grow (redrawn w dq) osq = w4 at *
    go_upto_region 3 with (fail)
    rw [H7N.out]
    clear H7N t7 t7'
    skip
  case' neg =>
    obtain ⟨n, hn⟩ : ∃ n : Nat, n = d := ⟨_, rfl⟩
    have t7 : decide ((7 : Int) < (d : Int)) = false := by simp; omega
    have t7' : ¬ (7 : Int) < (d : Int) := by omega
    have hsn : n = sendN l := by unfold sendN; omega
    have hnd : n ≤ d := by omega
    have HSN := Lib.hid hsn
    have HND := Lib.hid hnd
    have HN := Lib.hid hn
    clear hdl h7 hsn hnd hn
    go_enter Try.func28, Try.ntmps28
    go_wp2_with fail
    refine wp_region_quiet_below (by kernel_rfl) (by kernel_rfl) ?_
    repeat (go_big_quiet_step (fail))
    refine wpQuiet_nil ?_
    intro _ hw'
    obtain ⟨⟨dq, osq⟩, hw''⟩ := hw'
    subst hw''
    have hbx := below_regrown w dq osq
    clear E0 E1
    generalize grow (redrawn w dq) osq = w4 at *
    go_upto_region 3 with (fail)
    clear t7 t7'
    rw [← HN.out]
    skip
  all_goals
    obtain ⟨m, hm⟩ : ∃ m, gone + n = m := ⟨_, rfl⟩
    have hma : m ≤ all.length := by have := HD.out; have := HAL.out.1; have := HND.out; omega
    have hn7 : n ≤ 7 := by rw [HSN.out]; unfold sendN; omega
    have HMA := Lib.hid hma
    have HN7 := Lib.hid hn7
    have HMM := Lib.hid hm
    obtain ⟨s1, s2, s3⟩ := s_facts (show gone + n ≤ all.length by rw [hm]; exact hma) HAL.out.2
    rw [hm] at s1 s2 s3
    obtain ⟨u1, u2, u3, u4⟩ := u64_small (show n ≤ 1000000 by omega)
    obtain ⟨vx, h4⟩ := HW0.out
    have h4 := Holds.belowed h4 hbx
    have hW4 : HasB W B w4 wb e L (.st b [.slice A all.length c, .int .i64 (gone : Int)] 68 :: .rw (.slice A all.length c) 9 1 all.length (strs all) :: F) := ⟨vx, h4⟩
    have hp0 := rput W B w4 wb e L _ (n : Int) 3 hW4 (by omega) (by omega) (by decide) (by decide) (by have := HLL.out; omega)
    have HP0 := Lib.hid hp0
    clear hp0 hW4 h4 hbx hm hma hn7 x1 x2 x3 x4
    go_wp2_with fail
    refine HP0.out.mono ?_
    rintro e' w5 ⟨rfl, h5⟩
    have H5 := Lib.hid h5
    clear h5 HP0
    have HS3 := Lib.hid (And.intro s1 (And.intro s2 s3))
    clear s1 s2 s3 u1 u2 u3 u4
    by_cases hn0 : n = 0
    · have h5 := H5.out
      subst hn0
      rw [show ((0 : Nat) : Int) = 0 from rfl]
      have hM : sendB (gone : Int) l 0 = bitsOf 0 3 := by simp [sendB]
      have HM := Lib.hid hM
      obtain ⟨vy, hh5⟩ := h5
      have c0 := hh5.up2.cell 0 rfl
      have c1 := hh5.up2.cell 1 rfl
      clear hh5 hM
      go_wp2_with fail
      go_loopw [5] (fun i wr => i = .int .i64 (gone : Int) ∧ w5 = wr) (fun _ _ => 0)
      case atStart => exact ⟨rfl, rfl⟩
      case round =>
        obtain ⟨rfl, rfl⟩ := hrel
        obtain ⟨g1, g2⟩ := g_self HAL.out.1 HAL.out.2
        go_wp2_with fail
        go_end0
        refine ⟨rfl, .slice A all.length c, ?_⟩
        rw [← HSN.out, HM.out]
        exact H5.out
    · have t0 : (0 : Int) < (n : Int) := by omega
      have tn : 0 < n := by omega
      have t00 : decide ((0 : Int) < (n : Int)) = true := decide_eq_true t0
      obtain ⟨g1, y1, y2, y3, y4, y5, y6, y7, y8⟩ := HGF.out
      have HY3 := Lib.hid y3
      have hp1 := rput W B w5 wb e _ _ (g1 : Int) 32 H5.out (by omega) y8 (by decide) (by decide) (by rw [List.length_append, bitsOf_length]; have := HLL.out; have e : (3 : Int).toNat = 3 := rfl; omega)
      have HP1 := Lib.hid hp1
      obtain ⟨vy, hh5⟩ := H5.out
      have c1 := hh5.up2.cell 1 rfl
      have HN0 := Lib.hid hn0
      clear hh5 hp1 hn0
      go_wp2_with fail
      refine HP1.out.mono ?_
      rintro e' w6 ⟨rfl, h6⟩
      obtain ⟨M, hM⟩ : ∃ M, L ++ bitsOf (n : Int) (3 : Int).toNat ++ bitsOf (g1 : Int) (32 : Int).toNat = M := ⟨_, rfl⟩
      rw [hM] at h6
      have H6 := Lib.hid h6
      have HML : Hid (M.length ≤ L.length + 35) := by show M.length ≤ L.length + 35; rw [← hM, List.length_append, List.length_append, bitsOf_length, bitsOf_length]; have e : (3 : Int).toNat = 3 := rfl; have e : (32 : Int).toNat = 32 := rfl; omega
      have HM : Hid (M ++ linesB l n = L ++ sendB (gone : Int) l n) := by show M ++ linesB l n = L ++ sendB (gone : Int) l n; rw [← hM]; unfold sendB; rw [if_neg HN0.out, HY3.out, ← List.append_assoc, ← List.append_assoc]; rfl
      clear c1
      obtain ⟨vz, hh6⟩ := h6
      have c1 := hh6.up2.cell 1 rfl
      clear hh6 hM H5 HP1 y1 y2 y3 y4 y5 y6 y7 y8 t0 tn t00
      go_upto_region 7 with (fail)
      clear c1
      obtain ⟨s1, s2, s3⟩ := HS3.out
      go_loopw [5] (fun i wr => ∃ k : Nat, k ≤ n ∧ i = .int .i64 ((gone + k : Nat) : Int) ∧ HasB W B wr wb e (M ++ linesB l k) (.st b [.slice A all.length c, .int .i64 (gone : Int)] 68 :: .rw (.slice A all.length c) 9 1 all.length (strs all) :: F))
        (fun i _ => m - (intOf i).toNat)
      case atStart => exact ⟨0, Nat.zero_le _, rfl, by rw [show linesB l 0 = [] from rfl, List.append_nil]; exact H6.out⟩
      case round =>
        obtain ⟨k, hk, rfl, hH⟩ := hrel
        clear H6
        obtain ⟨x, hx⟩ : ∃ x, gone + k = x := ⟨_, rfl⟩
        rw [hx]
        have HH := Lib.hid hH
        obtain ⟨vk, hh⟩ := hH
        have c0 := hh.up2.cell 0 rfl
        have c1 := hh.up2.cell 1 rfl
        by_cases hkn : k < n
        · obtain ⟨i1, i2, i3, i4, i5, i6⟩ := x_facts hx HMM.out hkn HMA.out HAL.out.2
          obtain ⟨t, ht⟩ : ∃ t, lineAt l k = t := ⟨_, rfl⟩
          have hts : t.size ≤ 60 := ht ▸ lineAt_fits HF.out k
          have hlk : k < l.length := by have := HDL.out; have := HND.out; omega
          have hget : all[x]? = some t := by
            have := lineAt_get l k hlk
            rw [ht, ← HLD.out, List.getElem?_drop, hx] at this
            exact this
          obtain ⟨g, cp, he, _⟩ := hh.up3.row (by omega)
          simp only [Value.slice.injEq] at he
          obtain ⟨rfl, _, rfl⟩ := he
          have ck := (hh.up3.rcell x (by omega)).trans (strs_get all x t hget)
          obtain ⟨v1, v2, v3, v4⟩ := u64_small (Nat.le_trans hts (by decide))
          have hp := rput W B wr wb e _ _ (t.size : Int) 6 HH.out v3 v4 (by decide) (by decide) (len_okr HML.out HLL.out HF.out HN7.out (Nat.le_of_lt hkn))
          have HP := Lib.hid hp
          have HTS := Lib.hid hts
          have HT := Lib.hid ht
          have HI4 := Lib.hid i4
          have HI6 := Lib.hid i6
          have HGET := Lib.hid hget
          have HX := Lib.hid hx
          clear hh hp ht hts i4 i5 i6 hlk hget hx
          go_wp2_with fail
          refine HP.out.mono ?_
          rintro e' w7 ⟨rfl, h7⟩
          have H7 := Lib.hid h7
          clear h7 HP ck c0 c1 HH
          go_wp2_with fail
          go_loopw [6] (fun i wr => ∃ j : Nat, j ≤ t.size ∧ i = .int .i64 j ∧ HasB W B wr wb e (M ++ linesB l k ++ bitsOf (t.size : Int) (6 : Int).toNat ++ charsB t j) (.st b [.slice (some ⟨g, 0, none⟩) all.length c, .int .i64 (gone : Int)] 68 :: .rw (.slice (some ⟨g, 0, none⟩) all.length c) 9 1 all.length (strs all) :: F))
            (fun i _ => t.size - (intOf i).toNat)
          case atStart => exact ⟨0, Nat.zero_le _, rfl, by rw [show charsB t 0 = [] from rfl, List.append_nil]; exact H7.out⟩
          case round =>
            obtain ⟨j, hj, rfl, hH⟩ := hrel
            clear H7
            have HH := Lib.hid hH
            obtain ⟨vk2, hh⟩ := hH
            have c0 := hh.up2.cell 0 rfl
            have ck := (hh.up3.rcell x (by have := HI6.out; omega)).trans (strs_get all x t HGET.out)
            clear hh
            by_cases hjn : j < t.size
            · obtain ⟨k4, k5, k6, k7⟩ := loop_facts hjn (Nat.le_trans HTS.out (by decide))
              have hbr := byteAt_range t j
              obtain ⟨z1, z2, z3⟩ := u64_byte hbr
              have hp := rput W B wr wb e _ _ (byteAt t j) 8 HH.out hbr.1 z3 (by decide) (by decide) (len_okr2 HML.out HLL.out HF.out HN7.out (Nat.le_of_lt hkn) HTS.out hj)
              have HP := Lib.hid hp
              have HK6 := Lib.hid k6
              have hbe := byteAt_eq t j hjn
              clear hp hbr k6 k7
              go_wp2_with fail
              refine HP.out.mono ?_
              rintro e' w8 ⟨rfl, h8⟩
              have H8 := Lib.hid h8
              clear h8 HP hbe z1 z2 z3 c0 ck
              go_wp2_with fail
              try rw [HK6.out]
              refine ⟨⟨j + 1, hjn, cast_succ j, ?_⟩, succ_less hjn⟩
              rw [charsB_succ, ← List.append_assoc]
              exact H8.out
            · obtain rfl : j = t.size := by omega
              go_wp2_with fail
              try rw [HI4.out]
              refine ⟨⟨k + 1, hkn, ?_, ?_⟩, meas (by have := HX.out; have := HMM.out; omega)⟩
              · rw [← Nat.add_assoc, HX.out]; exact cast_succ x
              · rw [linesB_succ, HT.out, ← List.append_assoc]
                have h5 := HH.out
                rw [List.append_assoc (M ++ linesB l k)] at h5
                exact h5
        · obtain rfl : k = n := by omega
          have e0 : x = m := hx.symm.trans HMM.out
          subst e0
          clear hx hh
          go_wp2_with fail
          go_end0
          refine ⟨rfl, .slice A all.length c, ?_⟩
          rw [← HSN.out, ← HM.out]
          exact HH.out

end Go.Proofs.Ytpnnalkihcemhaa.Str
