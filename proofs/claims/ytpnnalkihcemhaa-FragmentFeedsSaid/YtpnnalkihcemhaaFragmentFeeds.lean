/- The law FragmentFeeds: whatever parts of whatever messages are fed, and whatever bytes, is answered as the chapter says. For all messages and scripts; no condition. Here: the walk. -/
import Derived.Test.YtpnnalkihcemhaaFeedsO
import Derived.Test.YtpnnalkihcemhaaFragA
import Derived.Test.YtpnnalkihcemhaaMix2
import Derived.Deep.Cut
import Derived.Deep.CutRange
set_option linter.unusedVariables false
set_option linter.unusedSimpArgs false
namespace Go.Proofs.Ytpnnalkihcemhaa.Frag
open Go.Sort Go.RowKit Go.Deep Go.WideShapes Go.ChangeShapes Go.Proofs.Ytpnnalkihcemhaa.Mem Go.Proofs.Ytpnnalkihcemhaa.Bits Go.Proofs.Ytpnnalkihcemhaa.Open Go.Proofs.Ytpnnalkihcemhaa.Num Go.Proofs.Ytpnnalkihcemhaa.Wr Go.Proofs.Ytpnnalkihcemhaa.Step Go.Proofs.YtpnnalkihcemhaaW.PrintWords

theorem info_ll : (Try.prog.info? 27).map (fun i => (i.zero, i.size, i.bytes)) = some (some (.slice none 0 0), 1, 24) := by kernel_rfl
/-- The cells of a row that is only read. -/
def RowAt (w : World) (A : Option Addr) (size : Nat) (xs : List (List Value)) : Prop := ∀ i cs, xs[i]? = some cs → ∃ b off, A = some ⟨b, off, none⟩ ∧ b < w.heap.size ∧ ∀ j u, cs[j]? = some u → w.cell? ⟨b, off + i * size + j, none⟩ = some u
theorem perm_pm (N P : List Ent) (x y : Ent) : (N ++ (x :: y :: P)).Perm (y :: (N ++ (x :: P))) := (List.Perm.append_left N (List.Perm.swap _ _ _)).trans List.perm_middle
theorem parts_bytes {id : Int} {bs p : List Int} (h : bytesOk bs) (hp : p ∈ partsOf id bs) : bytesOk p := by
  unfold partsOf at hp
  split at hp
  · unfold splitL at hp
    obtain ⟨i, _, rfl⟩ := List.mem_map.1 hp
    exact part_bytes2 h
  · cases hp
theorem few_m {k : Nat} {L : Nat} (h : k < L) (hl : L ≤ 10) : k + 1 ≤ 1000000 := by omega

set_option maxRecDepth 100000 in
set_option maxHeartbeats 4000000 in
theorem fragmentFeeds_core (w : World) (Ms : List (Int × Int × Int)) (hMs : ∀ t, t ∈ Ms → MsgOk t.1 t.2.1 t.2.2) (A1 : Option Addr) (c1 : Nat) (hr1 : RowAt w A1 3 (Ms.map mcell)) (ops : List Fop) (hops : ∀ o, o ∈ ops → o.wf w) (A2 : Option Addr) (c2 : Nat) (hr2 : RowAt w A2 4 (ops.map ocell)) :
    Calls Try.prog 5 #[.slice A1 Ms.length c1, .slice A2 ops.length c2] w fun e' w' => e' = .returned (.bool true) ∧ Below w.heap.size w w' := by
  have HMS := Lib.hid (And.intro hMs hr1)
  have HOPS := Lib.hid (And.intro hops hr2)
  clear hMs hr1 hops hr2
  by_cases hb1 : 10 < Ms.length
  · have tb : decide ((10 : Int) < (Ms.length : Int)) = true := decide_eq_true (by omega)
    clear hb1
    go_enter Try.func5, Try.ntmps5
    go_wp2_with fail
    refine (awake15 _).mono ?_
    rintro e' w1 ⟨rfl, h1⟩
    have HB := Lib.hid h1
    clear h1
    go_wp2_with fail
    refine (awake15 _).mono ?_
    rintro e' w3 ⟨rfl, h4⟩
    have HB2 := Lib.hid (HB.out.trans (h4.mono HB.out.size))
    clear h4
    go_wp2_with fail
    go_ret
    exact ⟨rfl, HB2.out⟩
  · have tb : decide ((10 : Int) < (Ms.length : Int)) = false := decide_eq_false (by omega)
    have HM10 := Lib.hid (Nat.le_of_not_lt hb1)
    clear hb1
    by_cases hb2 : 100 < ops.length
    · have tb2 : decide ((100 : Int) < (ops.length : Int)) = true := decide_eq_true (by omega)
      clear hb2
      go_enter Try.func5, Try.ntmps5
      go_wp2_with fail
      refine (awake15 _).mono ?_
      rintro e' w1 ⟨rfl, h1⟩
      have HB := Lib.hid h1
      clear h1
      go_wp2_with fail
      refine (awake15 _).mono ?_
      rintro e' w3 ⟨rfl, h4⟩
      have HB2 := Lib.hid (HB.out.trans (h4.mono HB.out.size))
      clear h4
      go_wp2_with fail
      go_ret
      exact ⟨rfl, HB2.out⟩
    · have tb2 : decide ((100 : Int) < (ops.length : Int)) = false := decide_eq_false (by omega)
      have HO100 := Lib.hid (Nat.le_of_not_lt hb2)
      clear hb2
      go_enter Try.func5, Try.ntmps5
      go_wp2_with fail
      refine (awake15 _).mono ?_
      rintro e' w1 ⟨rfl, h1⟩
      have HB := Lib.hid h1
      clear h1
      go_wp2_with fail
      clear tb tb2
      obtain ⟨j0, hj, hy0, hy1, hy2⟩ := info_parts info_ll
      go_loopw [5, 6] (fun pv iv wr => ∃ k : Nat, Hid (k ≤ Ms.length) ∧ iv = .int .i64 k ∧ Hid (PI w wr Ms pv k)) (fun _ iv _ => Ms.length - (intOf iv).toNat)
      case atStart => exact ⟨0, Lib.hid (Nat.zero_le _), rfl, Lib.hid (PI.start HB.out)⟩
      case round =>
        obtain ⟨k, HK, rfl, HP⟩ := hrel
        by_cases hk : k < Ms.length
        · obtain ⟨k0, k1, k2, k3⟩ := fi_facts hk (Nat.le_trans HM10.out (by decide))
          obtain ⟨t, ht⟩ : ∃ t, Ms[k]? = some t := ⟨_, List.getElem?_eq_getElem hk⟩
          obtain ⟨bm, om, rfl, hbm, hcell⟩ := HMS.out.2 k (mcell t) (by rw [List.getElem?_map, ht]; rfl)
          have hmok := HMS.out.1 t (List.mem_of_getElem? ht)
          obtain ⟨x1, x2, x3⟩ := t
          obtain ⟨vs, Pp, hvl, hH, hpin⟩ := HP.out
          have hbel := hH.below
          have d0 := hcell 0 _ rfl
          have d1 := hcell 1 _ rfl
          have d2 := hcell 2 _ rfl
          simp only [Nat.add_zero] at d0
          have HHS := Lib.hid (Holds.start w)
          have HMO := Lib.hid hmok
          have HT := Lib.hid ht
          have HKL := Lib.hid hk
          have HPIN := Lib.hid (And.intro hvl hpin)
          obtain ⟨bs, hbs⟩ : ∃ bs, msgB x2 x3 = bs := ⟨_, rfl⟩
          have HBS := Lib.hid hbs
          have hkeep : ∀ wx : World, Below w.heap.size w wx → wx.cell? ⟨bm, om + k * 3, none⟩ = some (.int .u16 x1) ∧ wx.cell? ⟨bm, om + k * 3 + 1, none⟩ = some (.int .u16 x2) ∧ wx.cell? ⟨bm, om + k * 3 + 2, none⟩ = some (.int .u8 x3) := fun wx hb => ⟨(hb.cell hbm).trans d0, (hb.cell hbm).trans d1, (hb.cell hbm).trans d2⟩
          have HKEEP := Lib.hid hkeep
          have hS1 : wr.drew.cell? ⟨bm, om + k * 3, none⟩ = some (.int .u16 x1) ∧ wr.drew.cell? ⟨bm, om + k * 3 + 1, none⟩ = some (.int .u16 x2) ∧ wr.drew.cell? ⟨bm, om + k * 3 + 2, none⟩ = some (.int .u8 x3) := hkeep _ hbel.drew
          have H4 := Lib.hid (hH.drewN 1)
          clear hk ht hmok hvl hpin hbs hkeep hH hbel hcell d0 d1 d2 hbm HP HB
          go_upto_region 7 with (fail)
          refine Mix.region 15 (fun w' => w'.cell? ⟨bm, om + k * 3, none⟩ = some (.int .u16 x1) ∧ w'.cell? ⟨bm, om + k * 3 + 1, none⟩ = some (.int .u16 x2) ∧ w'.cell? ⟨bm, om + k * 3 + 2, none⟩ = some (.int .u8 x3)) (by kernel_rfl) ?_
          simp only [List.size_toArray, List.length_cons, List.length_nil]
          refine Mix.at_take (i := 0) (v := ?_) rfl (by kernel_rfl) (by kernel_rfl) (by kernel_rfl) (by kernel_rfl) (by kernel_rfl) (by kernel_rfl) (by kernel_rfl) (fun _ _ _ h => h) (Or.inl ⟨by rfl, ?_⟩) hS1 ?_
          rotate_left
          · intro w hSw
            (try dsimp only at hSw)
            go_simp
            try (with_reducible rfl)
          try simp only [Act.put, List.setIfInBounds_toArray, List.set_cons_zero, List.set_cons_succ]
          refine Mix.at_take (i := 1) (v := ?_) rfl (by kernel_rfl) (by kernel_rfl) (by kernel_rfl) (by kernel_rfl) (by kernel_rfl) (by kernel_rfl) (by kernel_rfl) (fun _ _ _ h => h) (Or.inl ⟨by rfl, ?_⟩) hS1 ?_
          rotate_left
          · intro w hSw
            (try dsimp only at hSw)
            go_simp
            try (with_reducible rfl)
          try simp only [Act.put, List.setIfInBounds_toArray, List.set_cons_zero, List.set_cons_succ]
          refine Mix.at_take (i := 2) (v := ?_) rfl (by kernel_rfl) (by kernel_rfl) (by kernel_rfl) (by kernel_rfl) (by kernel_rfl) (by kernel_rfl) (by kernel_rfl) (fun _ _ _ h => h) (Or.inl ⟨by rfl, ?_⟩) hS1 ?_
          rotate_left
          · intro w hSw
            (try dsimp only at hSw)
            go_simp
            try (with_reducible rfl)
          try simp only [Act.put, List.setIfInBounds_toArray, List.set_cons_zero, List.set_cons_succ]
          refine Mix.at_take (i := 3) (v := ?_) rfl (by kernel_rfl) (by kernel_rfl) (by kernel_rfl) (by kernel_rfl) (by kernel_rfl) (by kernel_rfl) (by kernel_rfl) (fun _ _ _ h => h) (Or.inl ⟨by rfl, ?_⟩) hS1 ?_
          rotate_left
          · intro w hSw
            (try dsimp only at hSw)
            go_simp
            try (with_reducible rfl)
          try simp only [Act.put, List.setIfInBounds_toArray, List.set_cons_zero, List.set_cons_succ]
          refine Mix.at_take (i := 4) (v := ?_) rfl (by kernel_rfl) (by kernel_rfl) (by kernel_rfl) (by kernel_rfl) (by kernel_rfl) (by kernel_rfl) (by kernel_rfl) (fun _ _ _ h => h) (Or.inl ⟨by rfl, ?_⟩) hS1 ?_
          rotate_left
          · intro w hSw
            (try dsimp only at hSw)
            go_simp
            try (with_reducible rfl)
          try simp only [Act.put, List.setIfInBounds_toArray, List.set_cons_zero, List.set_cons_succ]
          refine Mix.at_take (i := 5) (v := ?_) rfl (by kernel_rfl) (by kernel_rfl) (by kernel_rfl) (by kernel_rfl) (by kernel_rfl) (by kernel_rfl) (by kernel_rfl) (fun _ _ _ h => h) (Or.inl ⟨by rfl, ?_⟩) hS1 ?_
          rotate_left
          · intro w hSw
            (try dsimp only at hSw)
            go_simp
            try (with_reducible rfl)
          try simp only [Act.put, List.setIfInBounds_toArray, List.set_cons_zero, List.set_cons_succ]
          refine Mix.at_take (i := 6) (v := ?_) rfl (by kernel_rfl) (by kernel_rfl) (by kernel_rfl) (by kernel_rfl) (by kernel_rfl) (by kernel_rfl) (by kernel_rfl) (fun _ _ _ h => h) (Or.inl ⟨by rfl, ?_⟩) hS1 ?_
          rotate_left
          · intro w hSw
            (try dsimp only at hSw)
            go_simp
            try (with_reducible rfl)
          try simp only [Act.put, List.setIfInBounds_toArray, List.set_cons_zero, List.set_cons_succ]
          refine Mix.at_take (i := 7) (v := ?_) rfl (by kernel_rfl) (by kernel_rfl) (by kernel_rfl) (by kernel_rfl) (by kernel_rfl) (by kernel_rfl) (by kernel_rfl) (fun _ _ _ h => h) (Or.inl ⟨by rfl, ?_⟩) hS1 ?_
          rotate_left
          · intro w hSw
            (try dsimp only at hSw)
            go_simp
            try (with_reducible rfl)
          try simp only [Act.put, List.setIfInBounds_toArray, List.set_cons_zero, List.set_cons_succ]
          refine Mix.at_take (i := 8) (v := ?_) rfl (by kernel_rfl) (by kernel_rfl) (by kernel_rfl) (by kernel_rfl) (by kernel_rfl) (by kernel_rfl) (by kernel_rfl) (fun _ _ _ h => h) (Or.inl ⟨by rfl, ?_⟩) hS1 ?_
          rotate_left
          · intro w hSw
            (try dsimp only at hSw)
            go_simp
            try (with_reducible rfl)
          try simp only [Act.put, List.setIfInBounds_toArray, List.set_cons_zero, List.set_cons_succ]
          refine Mix.at_step (i := 9) rfl (by kernel_rfl) (by kernel_rfl) (by rfl) ?_
          unfold Oper.wp
          go_simp
          refine (mbytes_h w w.heap.size _ _ H4.out x1 x2 x3 HMO.out HBS.out).mono ?_
          rintro e' w5 ⟨Ab, cb, rfl, h5⟩
          have hS1 : w5.cell? ⟨bm, om + k * 3, none⟩ = some (.int .u16 x1) ∧ w5.cell? ⟨bm, om + k * 3 + 1, none⟩ = some (.int .u16 x2) ∧ w5.cell? ⟨bm, om + k * 3 + 2, none⟩ = some (.int .u8 x3) := HKEEP.out _ h5.below
          refine ⟨hS1, ?_⟩
          have H5 := Lib.hid h5
          clear h5 H4
          try simp only [Act.put, List.setIfInBounds_toArray, List.set_cons_zero, List.set_cons_succ]
          refine Mix.at_step (i := 10) rfl (by kernel_rfl) (by kernel_rfl) (by rfl) ?_
          unfold Oper.wp
          go_simp
          refine (rsplit_h w w.heap.size _ _ H5.out x1 _ bs HMO.out.1 HMO.out.2.1 H5.out.rd).mono ?_
          rintro e' w6 ⟨Ap, np, cp, er, N, rfl, hpi, h6⟩
          have hS1 : w6.cell? ⟨bm, om + k * 3, none⟩ = some (.int .u16 x1) ∧ w6.cell? ⟨bm, om + k * 3 + 1, none⟩ = some (.int .u16 x2) ∧ w6.cell? ⟨bm, om + k * 3 + 2, none⟩ = some (.int .u8 x3) := HKEEP.out _ h6.below
          refine ⟨hS1, ?_⟩
          have h7 := h6.perm (perm_pm _ _ _ _)
          have H7 := Lib.hid h7
          have HPI := Lib.hid hpi
          clear h6 h7 hpi H5
          try simp only [Act.put, List.setIfInBounds_toArray, List.set_cons_zero, List.set_cons_succ]
          refine Mix.at_take (i := 11) (v := ?_) rfl (by kernel_rfl) (by kernel_rfl) (by kernel_rfl) (by kernel_rfl) (by kernel_rfl) (by kernel_rfl) (by kernel_rfl) (fun _ _ _ h => h) (Or.inl ⟨by rfl, ?_⟩) hS1 ?_
          rotate_left
          · intro w hSw
            (try dsimp only at hSw)
            go_simp
            try (with_reducible rfl)
          try simp only [Act.put, List.setIfInBounds_toArray, List.set_cons_zero, List.set_cons_succ]
          refine Mix.at_take (i := 12) (v := ?_) rfl (by kernel_rfl) (by kernel_rfl) (by kernel_rfl) (by kernel_rfl) (by kernel_rfl) (by kernel_rfl) (by kernel_rfl) (fun _ _ _ h => h) (Or.inl ⟨by rfl, ?_⟩) hS1 ?_
          rotate_left
          · intro w hSw
            (try dsimp only at hSw)
            go_simp
            try (with_reducible rfl)
          try simp only [Act.put, List.setIfInBounds_toArray, List.set_cons_zero, List.set_cons_succ]
          refine Mix.at_take (i := 13) (v := ?_) rfl (by kernel_rfl) (by kernel_rfl) (by kernel_rfl) (by kernel_rfl) (by kernel_rfl) (by kernel_rfl) (by kernel_rfl) (fun _ _ _ h => h) (Or.inl ⟨by rfl, ?_⟩) hS1 ?_
          rotate_left
          · intro w hSw
            (try dsimp only at hSw)
            go_simp
            try (with_reducible rfl)
          try simp only [Act.put, List.setIfInBounds_toArray, List.set_cons_zero, List.set_cons_succ]
          refine Mix.at_take (i := 14) (v := ?_) rfl (by kernel_rfl) (by kernel_rfl) (by kernel_rfl) (by kernel_rfl) (by kernel_rfl) (by kernel_rfl) (by kernel_rfl) (fun _ _ _ h => h) (Or.inl ⟨by rfl, ?_⟩) hS1 ?_
          rotate_left
          · intro w hSw
            (try dsimp only at hSw)
            go_simp
            try (with_reducible rfl)
          try simp only [Act.put, List.setIfInBounds_toArray, List.set_cons_zero, List.set_cons_succ]
          refine Mix.at_tail _ rfl rfl (by kernel_rfl) ?_
          simp only [List.drop_succ_cons, List.drop_zero]
          go_upto_region 8 with (fail)
          clear hS1
          have H8 := Lib.hid (H7.out.alloc' (.cells #[.slice Ap np cp] 27))
          go_wp2_with (at_builtin; refine wpList_append_one rfl _ _ _ rfl 27 j0 _ 1 24 Try.underlying37 hj hy0 hy1 hy2 rfl (by decide) rfl H8.out [.slice Ap np cp] rfl rfl (one_new _ _ _) (one_sl _ _ _) (few_m HKL.out HM10.out) (by decide) ?_)
          intro v9 w9 h9
          have hnx := PI.next HT.out HPIN.out.1 (fun i v t hv ht => (HPIN.out.2 i v t hv ht).less (fun e he => List.mem_cons_of_mem _ he)) (by rw [show ((x1, x2, x3) : Int × Int × Int).2.1 = x2 from rfl, show ((x1, x2, x3) : Int × Int × Int).2.2 = x3 from rfl, HBS.out]; exact HPI.out.less (P' := N) (fun e he => he)) (P := .rw (.slice Ab bs.length cb) 5 1 bs.length (nums .u8 bs) :: Pp) h9
          have HNX := Lib.hid hnx
          clear h9 hnx H8 H7
          go_wp2_with fail
          exact ⟨⟨k + 1, Lib.hid HKL.out, by go_num, HNX⟩, fi_down HKL.out⟩
        · obtain rfl : k = Ms.length := Nat.le_antisymm HK.out (Nat.le_of_not_lt hk)
          have k9 : ¬ (Ms.length : Int) < (Ms.length : Int) := Int.lt_irrefl _
          have hbel := HP.out.below
          have hRP := HP.out.done
          obtain ⟨vs, hvr, hvl, hvp⟩ := hRP
          obtain ⟨Apv, cpv, rfl, _, _, hpc⟩ := Rd.form hvr hvl
          have HBEL := Lib.hid hbel
          have HVP := Lib.hid (And.intro hvl (And.intro hvp hpc))
          clear hk HB hbel hvr hvl hvp hpc
          go_upto_region 9 with (fail)
          have hst := SI.start (((Holds.start wr).alloc [.slice none 0 0] 41).alloc [.slice none 0 0] 45)
          rw [show (wr.alloc (.cells [Value.slice none 0 0].toArray 41)).heap.size = wr.heap.size + 1 from by simp] at hst
          obtain ⟨a, ha⟩ : ∃ a, wr.heap.size = a := ⟨_, rfl⟩
          rw [ha] at hst
          have HST := Lib.hid hst
          have HAB := Lib.hid ha
          clear hst HP
          go_wp2_with fail
          clear ha
          generalize (wr.alloc (.cells #[Value.slice none 0 0] 41)).alloc (.cells #[Value.slice none 0 0] 45) = w3 at *
          go_loopw [11] (fun iv wx => ∃ (n : Nat) (L : List (RP × Value)), Hid (n ≤ ops.length) ∧ iv = .int .i64 n ∧ Hid (L.length ≤ n) ∧ Hid (SI wr wx a (a + 1) L)) (fun iv _ => ops.length - (intOf iv).toNat)
          case atStart => exact ⟨0, [], Lib.hid (Nat.zero_le _), rfl, Lib.hid (Nat.le_refl _), HST⟩
          case round =>
            obtain ⟨n, L, HN, rfl, HL, HS⟩ := hrel
            clear HST
            by_cases hn : n < ops.length
            · obtain ⟨n0, n1, n2, n3⟩ := fi_facts hn (Nat.le_trans HO100.out (by decide))
              obtain ⟨o, ho⟩ : ∃ o, ops[n]? = some o := ⟨_, List.getElem?_eq_getElem hn⟩
              obtain ⟨bo, oo, rfl, hbo, hoc⟩ := HOPS.out.2 n (ocell o) (by rw [List.getElem?_map, ho]; rfl)
              have howf := HOPS.out.1 o (List.mem_of_getElem? ho)
              obtain ⟨oraw, ok_, oat, ov, ob⟩ := o
              obtain ⟨Ao, co, hov, _, _, _⟩ := Rd.form howf.1 (nums_length _ _)
              dsimp only at hov
              subst hov
              have HBX := Lib.hid (HBEL.out.trans (HS.out.below.mono HBEL.out.size))
              have d0 := (HBX.out.cell (p := ⟨bo, oo + n * 4 + 0, none⟩) hbo).trans (hoc 0 _ rfl)
              have d1 := (HBX.out.cell (p := ⟨bo, oo + n * 4 + 1, none⟩) hbo).trans (hoc 1 _ rfl)
              have d2 := (HBX.out.cell (p := ⟨bo, oo + n * 4 + 2, none⟩) hbo).trans (hoc 2 _ rfl)
              have d3 := (HBX.out.cell (p := ⟨bo, oo + n * 4 + 3, none⟩) hbo).trans (hoc 3 _ rfl)
              simp only [Nat.add_zero] at d0
              have D1 := cell_regrown d1
              have D2 := cell_regrown d2
              have HNL := Lib.hid hn
              have HWF := Lib.hid howf
              have HD0 := Lib.hid (And.intro hbo hoc)
              have HLL := Lib.hid (Nat.le_trans HL.out (Nat.le_trans HN.out (Nat.le_trans HO100.out (by decide : 100 ≤ 190))))
              clear hn ho howf hbo hoc d1 d2
              go_upto_region 14 with (fail)
              refine wp_region_quiet_below (by kernel_rfl) (by kernel_rfl) ?_
              repeat (go_big_quiet_step (fail))
              refine wpQuiet_nil ?_
              intro _ hw'
              obtain ⟨⟨dq, osq⟩, hw''⟩ := hw'
              subst hw''
              have HS2 := Lib.hid (HS.out.then (below_regrown _ dq osq))
              clear d0 d3 D1 D2 HS HBX
              generalize grow (redrawn ‹World› dq) osq = w5 at *
              by_cases h400 : 400 < ob.length
              · have t4 : decide ((400 : Int) < (ob.length : Int)) = true := decide_eq_true (by omega)
                clear h400
                go_wp2_with fail
                go_ret
                exact ⟨rfl, HBEL.out.trans (HS2.out.below.mono HBEL.out.size)⟩
              · have t4 : decide ((400 : Int) < (ob.length : Int)) = false := decide_eq_false (by omega)
                have HBX := Lib.hid (HBEL.out.trans (HS2.out.below.mono HBEL.out.size))
                have d0 := (HBX.out.cell (p := ⟨bo, oo + n * 4 + 0, none⟩) HD0.out.1).trans (HD0.out.2 0 _ rfl)
                simp only [Nat.add_zero] at d0
                have HB400 := Lib.hid (Nat.le_trans (Nat.le_of_not_lt h400) (by decide : 400 ≤ 100000000))
                clear h400
                cases oraw with
                | true =>
                  have hb4 : bytesOk ob := ⟨HB400.out, HWF.out.2⟩
                  have HB4 := Lib.hid (And.intro (HWF.out.1.below HBEL.out) hb4)
                  clear hb4
                  obtain ⟨out, hout⟩ : ∃ out, (refA (L.map (·.1)) ob).2.out.getD [] = out := ⟨_, rfl⟩
                  obtain ⟨ok, hokk⟩ : ∃ ok, (refA (L.map (·.1)) ob).2.out.isSome = ok := ⟨_, rfl⟩
                  obtain ⟨er, her⟩ : ∃ er, (refA (L.map (·.1)) ob).2.er = er := ⟨_, rfl⟩
                  have hf := si_feed _ _ a (a + 1) L Ao co ob HS2.out HB4.out.1 HB4.out.2
                  rw [hout, hokk, her] at hf
                  have HF := Lib.hid hf
                  have HQ := Lib.hid (And.intro hout (And.intro hokk her))
                  clear hf hout hokk her
                  go_wp2_with fail
                  refine HF.out.mono ?_
                  rintro e' w6 ⟨Ax, cx, rfl, G, hRA, hback⟩
                  have hg := si_rfeed _ w6 a (a + 1) L Ao co ob _ G HLL.out hRA (fun wx L' h1 h2 => hback wx L' _ rfl h1 h2) HB4.out.1 HB4.out.2
                  rw [HQ.out.1, HQ.out.2.1, HQ.out.2.2] at hg
                  have HG := Lib.hid hg
                  clear hg hback hRA HF
                  go_wp2_with fail
                  with_reducible refine HG.out.mono ?_
                  rintro e' w7 ⟨Ay, cy, L', rfl, hrd, hlen, hSI, hx⟩
                  have hsm := Wr.same w7 (.slice Ax out.length cx) (.slice Ay out.length cy) out out (Rd.of_own hx) hrd
                  rw [decide_eq_true rfl] at hsm
                  have HSM := Lib.hid hsm
                  have HS7 := Lib.hid hSI
                  have HLN := Lib.hid (Nat.le_trans hlen (Nat.succ_le_succ HL.out))
                  clear hsm hSI hx hrd hlen HG HS2 HBX
                  go_wp2_with fail
                  refine HSM.out.mono ?_
                  rintro e' w8 ⟨rfl, hd⟩
                  have HS8 := Lib.hid (HS7.out.then hd.below)
                  have HW8 := Lib.hid (si_waits _ _ a (a + 1) L' HS8.out)
                  have HV8 := Lib.hid (si_rwaits _ _ a (a + 1) L' HS8.out)
                  clear hd HSM HS7
                  go_wp2_with fail
                  refine HW8.out.mono ?_
                  rintro e' w9 ⟨rfl, rfl⟩
                  clear HW8
                  go_wp2_with fail
                  refine HV8.out.mono ?_
                  rintro e' w10 ⟨rfl, hS10⟩
                  have HS10 := Lib.hid hS10
                  clear HV8 HS8 hS10
                  go_wp2_with fail
                  exact ⟨⟨n + 1, L', Lib.hid HNL.out, by go_num, HLN, HS10⟩, fi_down HNL.out⟩
                | false =>
                  by_cases hk0 : ok_ < 0
                  · have t5 : decide (ok_ < 0) = true := decide_eq_true hk0
                    go_wp2_with fail
                    exact ⟨⟨n + 1, L, Lib.hid HNL.out, by go_num, Lib.hid (Nat.le_trans HL.out (Nat.le_succ _)), HS2⟩, fi_down HNL.out⟩
                  · obtain ⟨kn, rfl⟩ := Int.eq_ofNat_of_zero_le (Int.not_lt.1 hk0)
                    have t5 : decide ((kn : Int) < 0) = false := decide_eq_false hk0
                    clear hk0
                    by_cases hk1 : Ms.length ≤ kn
                    · have t6 : decide ((Ms.length : Int) ≤ (kn : Int)) = true := decide_eq_true (Int.ofNat_le.2 hk1)
                      have t7 : decide (Ms.length ≤ kn) = true := decide_eq_true hk1
                      go_wp2_with fail
                      exact ⟨⟨n + 1, L, Lib.hid HNL.out, by go_num, Lib.hid (Nat.le_trans HL.out (Nat.le_succ _)), HS2⟩, fi_down HNL.out⟩
                    · have t6 : decide ((Ms.length : Int) ≤ (kn : Int)) = false := decide_eq_false (fun h => hk1 (Int.ofNat_le.1 h))
                      have t7 : decide (Ms.length ≤ kn) = false := decide_eq_false hk1
                      have HKL := Lib.hid (Nat.lt_of_not_le hk1)
                      clear hk1
                      by_cases ha0 : oat < 0
                      · have t8 : decide (oat < 0) = true := decide_eq_true ha0
                        go_wp2_with fail
                        exact ⟨⟨n + 1, L, Lib.hid HNL.out, by go_num, Lib.hid (Nat.le_trans HL.out (Nat.le_succ _)), HS2⟩, fi_down HNL.out⟩
                      · obtain ⟨an, rfl⟩ := Int.eq_ofNat_of_zero_le (Int.not_lt.1 ha0)
                        have t8 : decide ((an : Int) < 0) = false := decide_eq_false ha0
                        clear ha0
                        obtain ⟨t, ht⟩ : ∃ t, Ms[kn]? = some t := ⟨_, List.getElem?_eq_getElem HKL.out⟩
                        have hmok := HMS.out.1 t (List.mem_of_getElem? ht)
                        obtain ⟨vk, hvk, hrs⟩ := HVP.out.2.1 kn t ht
                        obtain ⟨ws, hwl, hwr, hwp⟩ := hrs
                        obtain ⟨Lp, hLp⟩ : ∃ Lp, partsOf t.1 (msgB t.2.1 t.2.2) = Lp := ⟨_, rfl⟩
                        rw [hLp] at hwl hwr hwp
                        obtain ⟨Ak, ck, rfl, _, _, hkc⟩ := Rd.form hwr hwl
                        obtain ⟨bp, op, rfl, hbp, hpcell⟩ := HVP.out.2.2 kn HKL.out
                        have e0 := (HS2.out.below.cell (p := ⟨bp, op + kn, none⟩) hbp).trans (hpcell _ hvk)
                        have j0 : (0 : Int) ≤ (kn : Int) := Int.natCast_nonneg _
                        have j1 : (kn : Int) < (Ms.length : Int) := Int.ofNat_lt.2 HKL.out
                        have HLP := Lib.hid (And.intro hLp hmok)
                        have HWS := Lib.hid (And.intro hwl (And.intro hwp hkc))
                        clear ht hmok hvk hLp hwl hwr hwp hkc hbp hpcell
                        by_cases ha1 : Lp.length ≤ an
                        · have t9 : decide ((Lp.length : Int) ≤ (an : Int)) = true := decide_eq_true (Int.ofNat_le.2 ha1)
                          have t10 : decide (Lp.length ≤ an) = true := decide_eq_true ha1
                          go_wp2_with fail
                          exact ⟨⟨n + 1, L, Lib.hid HNL.out, by go_num, Lib.hid (Nat.le_trans HL.out (Nat.le_succ _)), HS2⟩, fi_down HNL.out⟩
                        · have t9 : decide ((Lp.length : Int) ≤ (an : Int)) = false := decide_eq_false (fun h => ha1 (Int.ofNat_le.1 h))
                          have t10 : decide (Lp.length ≤ an) = false := decide_eq_false ha1
                          have hal := Nat.lt_of_not_le ha1
                          obtain ⟨p, hp⟩ : ∃ p, Lp[an]? = some p := ⟨_, List.getElem?_eq_getElem hal⟩
                          obtain ⟨vj, hvj, hrj⟩ := HWS.out.2.1 an p hp
                          obtain ⟨bq, oq, rfl, hbq, hqcell⟩ := HWS.out.2.2 an hal
                          have e1 := (HS2.out.below.cell (p := ⟨bq, oq + an, none⟩) hbq).trans (hqcell _ hvj)
                          obtain ⟨Aj, cj, rfl, _, _, _⟩ := Rd.form hrj (nums_length _ _)
                          have j2 : (0 : Int) ≤ (an : Int) := Int.natCast_nonneg _
                          have j3 : (an : Int) < (Lp.length : Int) := Int.ofNat_lt.2 hal
                          have hb4 : bytesOk p := by
                            have hpm := List.mem_of_getElem? hp
                            rw [← HLP.out.1] at hpm
                            exact parts_bytes (msgB_ok _ _) hpm
                          have HB4 := Lib.hid (And.intro hrj hb4)
                          clear ha1 hal hp hvj hrj hbq hqcell hb4
                          obtain ⟨out, hout⟩ : ∃ out, (refA (L.map (·.1)) p).2.out.getD [] = out := ⟨_, rfl⟩
                          obtain ⟨ok, hokk⟩ : ∃ ok, (refA (L.map (·.1)) p).2.out.isSome = ok := ⟨_, rfl⟩
                          obtain ⟨er, her⟩ : ∃ er, (refA (L.map (·.1)) p).2.er = er := ⟨_, rfl⟩
                          have hf := si_feed _ _ a (a + 1) L Aj cj p HS2.out HB4.out.1 HB4.out.2
                          rw [hout, hokk, her] at hf
                          have HF := Lib.hid hf
                          have HQ := Lib.hid (And.intro hout (And.intro hokk her))
                          clear hf hout hokk her
                          go_wp2_with fail
                          refine HF.out.mono ?_
                          rintro e' w6 ⟨Ax, cx, rfl, G, hRA, hback⟩
                          have hg := si_rfeed _ w6 a (a + 1) L Aj cj p _ G HLL.out hRA (fun wx L' h1 h2 => hback wx L' _ rfl h1 h2) HB4.out.1 HB4.out.2
                          rw [HQ.out.1, HQ.out.2.1, HQ.out.2.2] at hg
                          have HG := Lib.hid hg
                          clear hg hback hRA HF
                          go_wp2_with fail
                          with_reducible refine HG.out.mono ?_
                          rintro e' w7 ⟨Ay, cy, L', rfl, hrd, hlen, hSI, hx⟩
                          have hsm := Wr.same w7 (.slice Ax out.length cx) (.slice Ay out.length cy) out out (Rd.of_own hx) hrd
                          rw [decide_eq_true rfl] at hsm
                          have HSM := Lib.hid hsm
                          have HS7 := Lib.hid hSI
                          have HLN := Lib.hid (Nat.le_trans hlen (Nat.succ_le_succ HL.out))
                          clear hsm hSI hx hrd hlen HG HS2 HBX
                          go_wp2_with fail
                          refine HSM.out.mono ?_
                          rintro e' w8 ⟨rfl, hd⟩
                          have HS8 := Lib.hid (HS7.out.then hd.below)
                          have HW8 := Lib.hid (si_waits _ _ a (a + 1) L' HS8.out)
                          have HV8 := Lib.hid (si_rwaits _ _ a (a + 1) L' HS8.out)
                          clear hd HSM HS7
                          go_wp2_with fail
                          refine HW8.out.mono ?_
                          rintro e' w9 ⟨rfl, rfl⟩
                          clear HW8
                          go_wp2_with fail
                          refine HV8.out.mono ?_
                          rintro e' w10 ⟨rfl, hS10⟩
                          have HS10 := Lib.hid hS10
                          clear HV8 HS8 hS10
                          go_wp2_with fail
                          exact ⟨⟨n + 1, L', Lib.hid HNL.out, by go_num, HLN, HS10⟩, fi_down HNL.out⟩
            · obtain rfl : n = ops.length := Nat.le_antisymm HN.out (Nat.le_of_not_lt hn)
              have k8 : ¬ (ops.length : Int) < (ops.length : Int) := Int.lt_irrefl _
              clear hn
              go_wp2_with fail
              go_ret
              exact ⟨rfl, HBEL.out.trans (HS.out.below.mono HBEL.out.size)⟩

theorem rowAt_of {w : World} {v : Value} {size : Nat} {xs : List (List Value)} (h : RdL w v size xs) (hs : 0 < size) : ∃ A c, v = .slice A xs.length c ∧ RowAt w A size xs := by
  obtain ⟨A, c, rfl, _, _, hr⟩ := h.form hs
  refine ⟨A, c, rfl, fun i cs hi => ?_⟩
  obtain ⟨b, off, hA, hb, h1⟩ := hr i (List.getElem?_eq_some_iff.1 hi).1
  exact ⟨b, off, hA, hb, fun j u hu => h1 cs hi j u hu⟩

set_option maxRecDepth 100000 in
theorem fragmentFeeds (w : World) {H : Type} {enc : TypeId × Value → H} {base base' base2 base2' : Nat} {sp sp2 : Nat → Bool} {held held2 : Bool} {d d2 : DataW H} {ps ps2 : List MemPlace} {r r2 : Reach} (v0 : Value)
    (hok0 : Value.okWide Try.prog w r base' 35 v0) (h0 : DataW.Trod enc Try.prog w base sp held 35 v0 d ps) (v : Value)
    (hok : Value.okWide Try.prog w r2 base2' 36 v) (h : DataW.Trod enc Try.prog w base2 sp2 held2 36 v d2 ps2) :
    Calls Try.prog 5 #[v0, v] w fun e' w' => e' = .returned (.bool true) ∧ Below w.heap.size w w' := by
  obtain ⟨Ms, hm1, hm2⟩ := open_fmsgs hok0 h0
  obtain ⟨ops, ho1, ho2⟩ := open_fops hok h
  obtain ⟨A1, c1, rfl, hr1⟩ := rowAt_of hm1 (by decide)
  obtain ⟨A2, c2, rfl, hr2⟩ := rowAt_of ho1 (by decide)
  rw [List.length_map, List.length_map]
  exact fragmentFeeds_core w Ms hm2 A1 c1 hr1 ops ho2 A2 c2 hr2


end Go.Proofs.Ytpnnalkihcemhaa.Frag
