/- slices.DeleteFunc with the closure of Channel.Take on a row of its own. -/
import Derived.Test.YtlhlkjllihbokaaChDelP
import Derived.Test.YtlhlkjllihbokaaSlc
set_option linter.unusedVariables false
set_option linter.unusedSimpArgs false
namespace Go.Proofs.Ytlhlkjllihbokaa.Chan
open Go.Sort Go.RowKit Go.Proofs.Ytlhlkjllihbokaa.Mem Go.Proofs.Ytlhlkjllihbokaa.Open Go.Proofs.Ytlhlkjllihbokaa.Num Go.Proofs.Ytlhlkjllihbokaa.Step Go.Proofs.Ytlhlkjllihbokaa.Ser Go.Proofs.YtlhlkjllihbokaaW.PrintWords

/-- What DeleteFunc answers: what stays of the row, and what was got. -/
def DelPost (W : World) (B : Nat) (gw gg : Nat) (wi : Win) (op : List Int) (A : Option Addr) (c : Nat) (F : List Ent) (e' : Ending) (w' : World) : Prop :=
  e' = .returned (.slice A (op.filter (fun x => !hasW wi x)).length c) ∧ Clo W B w' gw gg wi (op.filter (hasW wi)) (.rw (.slice A (op.filter (fun x => !hasW wi x)).length c) 22 1 (op.filter (fun x => !hasW wi x)).length (u16s (op.filter (fun x => !hasW wi x))) :: F)

theorem u16s_some {l : List Int} {k : Nat} {x : Int} (h : l[k]? = some x) : (u16s l)[k]? = some (.int .u16 x) := by
  rw [u16s, List.getElem?_map, h]; rfl
theorem parted_len {p : Int → Bool} {op L got : List Int} {i j : Nat} (h : Parted p op L i j got) : got.length ≤ op.length := by
  rw [h.2.2.2.2.2]; exact Nat.le_trans (List.length_filter_le _ _) (by rw [List.length_take]; omega)
theorem end_facts {i n c : Nat} (h : i < n) (hc : n ≤ c) (hn : n ≤ 1000) : (0 : Int) ≤ (i : Int) ∧ (i : Int) ≤ (n : Int) ∧ (n : Int) ≤ (c : Int) ∧ (i : Int) ≤ (c : Int) ∧ ¬ c - i = 0 ∧ ¬ (c : Int) - (i : Int) = 0 ∧ ¬ (i : Int) = (c : Int) ∧ ¬ i = c ∧ ((n : Int) - (i : Int)).toNat = n - i ∧ ((c : Int) - (i : Int)).toNat = c - i ∧ i ≤ c ∧ i ≤ n := by omega

set_option maxRecDepth 100000 in
set_option maxHeartbeats 2000000 in
theorem cdelf (W : World) (B : Nat) (w : World) (gw gg : Nat) (wi : Win) (op : List Int) (A : Option Addr) (c : Nat) (F : List Ent) (hm0 : 0 ≤ wi.mask) (hm1 : wi.mask < 4294967296) (hl : op.length ≤ 1000)
    (hH : Clo W B w gw gg wi [] (.rw (.slice A op.length c) 22 1 op.length (u16s op) :: F)) :
    Calls Try.prog 48 #[.slice A op.length c, .func (.func 49) #[] #[.pointer (some ⟨gw, 0, none⟩), .pointer (some ⟨gg, 0, none⟩)]] w fun e' w' =>
      DelPost W B gw gg wi op A c F e' w' := by
  have hp := cidx W B w gw gg wi op A c F hm0 hm1 hl hH
  have HP := Lib.hid hp
  have HM := Lib.hid (And.intro hm0 hm1)
  have HL := Lib.hid hl
  clear hH hm0 hm1 hl hp
  go_enter Try.func48, Try.ntmps48
  go_wp2_with fail
  refine HP.out.mono ?_
  rintro e' w1 (⟨k, hk, rfl, hf, hk2, h1⟩ | ⟨rfl, hf, h1⟩)
  · obtain ⟨vg, hH⟩ := h1
    obtain ⟨g, cap, he, hcap, _⟩ := hH.up3.row (Nat.lt_of_le_of_lt (Nat.zero_le _) hk)
    simp only [Value.slice.injEq, true_and] at he
    obtain ⟨rfl, rfl⟩ := he
    obtain ⟨k0, k1, k2, k3⟩ := k_facts hk HL.out
    have kn : ¬ (k : Int) = -1 := by omega
    have hps := parted_start hk hf hk2
    obtain ⟨y, hy⟩ : ∃ y, op[k] = y := ⟨_, rfl⟩
    rw [hy] at hps hH
    have HPS := Lib.hid hps
    have H1 : Hid (Clo W B w1 gw gg wi [y] (.rw (.slice (some ⟨g, 0, none⟩) op.length c) 22 1 op.length (u16s op) :: F)) := ⟨vg, hH⟩
    have HCAP := Lib.hid hcap
    clear hH hf hk2 HP hps hy hk hcap
    go_wp2_with fail
    go_loopw [5, 6] (fun iv jv wr => ∃ (i j : Nat) (L got : List Int), iv = .int .i64 i ∧ jv = .int .i64 j ∧ Hid (Parted (hasW wi) op L i j got) ∧ Hid (Clo W B wr gw gg wi got (.rw (.slice (some ⟨g, 0, none⟩) op.length c) 22 1 op.length (u16s L) :: F)))
      (fun _ jv _ => op.length - (intOf jv).toNat)
    case atStart => exact ⟨k, k + 1, op, [y], rfl, by go_num, HPS, H1⟩
    case round =>
      obtain ⟨i, j, L, got, rfl, rfl, HPT, HC⟩ := hrel
      clear H1 HPS k0 k1 k2 k3 kn
      by_cases hjn : j < op.length
      · obtain ⟨k0, k1, k2, k3⟩ := k_facts hjn HL.out
        obtain ⟨i0, i1, i2, i3⟩ := k_facts (Nat.lt_trans HPT.out.2.1 hjn) HL.out
        obtain ⟨vg, hH⟩ := HC.out
        have e0 := (hH.up3.rcell j (by rw [Nat.mul_one]; exact hjn)).trans (u16s_some (parted_at HPT.out hjn))
        have hp := cclo W B wr gw gg wi got vg op[j] _ HM.out.1 HM.out.2 (Nat.le_trans (parted_len HPT.out) HL.out) hH
        have hgone := fun h => parted_gone HPT.out hjn h
        have hstay := fun h => parted_stays HPT.out hjn h
        obtain ⟨x, hx⟩ : ∃ x, op[j] = x := ⟨_, rfl⟩
        rw [hx] at e0 hp hgone hstay
        obtain ⟨bb, hbb⟩ : ∃ bb, hasW wi x = bb := ⟨_, rfl⟩
        rw [hbb] at hp
        have HP := Lib.hid hp
        have HBB := Lib.hid hbb
        have HG := Lib.hid (And.intro hgone hstay)
        have HI := Lib.hid (Nat.lt_trans HPT.out.2.1 hjn)
        clear hp hH hx hbb HC hgone hstay
        go_wp2_with fail
        refine HP.out.mono ?_
        rintro e' w2 ⟨rfl, vg1, h2⟩
        cases bb with
        | true =>
          have HN := Lib.hid (HG.out.1 HBB.out)
          have H2 := Lib.hid h2
          clear h2 HP HG
          go_wp2_with fail
          refine ⟨⟨_, _, _, _, _, _, _, _, _, _, _, _, _, _, _, _, _, _, _, _, _, _, _, ?_, rfl⟩, ?_⟩
          · exact ⟨i, j + 1, L, got ++ [x], rfl, by go_num, HN, Lib.hid ⟨vg1, H2.out⟩⟩
          · simp [intOf]; omega
        | false =>
          have HN := Lib.hid (HG.out.2 HBB.out)
          have r := h2.up3
          have c0 := (r.rcell i (by rw [Nat.mul_one]; exact HI.out)).trans (u16s_at L i (by rw [HPT.out.1]; exact HI.out))
          have z0 := r.rfrozen i
          have s := (r.rset i (.int .u16 x)).up3.up3.up3
          rw [show (u16s L).set i (.int .u16 x) = u16s (L.set i x) by simp [u16s, List.map_set]] at s
          have H2 := Lib.hid s
          clear h2 HP HG r s
          go_wp2_with fail
          refine ⟨⟨_, _, _, _, _, _, _, _, _, _, _, _, _, _, _, _, _, _, _, _, _, _, _, ?_, rfl⟩, ?_⟩
          · exact ⟨i + 1, j + 1, L.set i x, got, by go_num, by go_num, HN, Lib.hid ⟨vg1, H2.out⟩⟩
          · simp [intOf]; omega
      · obtain rfl : j = op.length := by have := HPT.out.2.2.1; omega
        obtain ⟨e1, e2, e3, e4⟩ := parted_end HPT.out
        obtain ⟨f1, f2, f3, f4, f5, f6, f7, f8, f9, f10, f11, f12⟩ := end_facts e3 HCAP.out HL.out
        have hjn2 : ¬ (op.length : Int) < (op.length : Int) := by omega
        obtain ⟨vg, hH⟩ := HC.out
        have r := hH.up3.shrink i f12
        have hclr := Lib.run_clear_slice (P := Try.prog) wr 27 22 0 (.int .u16 0) Try.underlying27 zero_u16 rfl rfl g i (op.length - i) (c - i) (by omega) (fun j hj => r.there _ (by have := HCAP.out; omega)) (fun j hj => r.rfrozen _)
        have H7 := Lib.hid (r.setsBehind (List.replicate (op.length - i) (.int .u16 0)) i (Nat.le_refl _))
        have HE := Lib.hid (And.intro e1 (And.intro e2 e4))
        clear r hH e1 e2 e4 HC hjn
        go_wp2_with fail
        go_ret
        have h8 := H7.out.up3.up3.up3
        rw [Nat.mul_one, show (u16s L).take i = u16s (L.take i) by simp [u16s, List.map_take], HE.out.1] at h8
        unfold DelPost
        rw [HE.out.2.2, ← HE.out.2.1]
        exact ⟨rfl, vg, h8⟩
  · obtain ⟨e1, e2⟩ := parted_none hf
    have H1 := Lib.hid h1
    have HE := Lib.hid (And.intro e1 e2)
    clear h1 e1 e2 hf HP
    go_wp2_with fail
    go_ret
    unfold DelPost
    rw [HE.out.1, HE.out.2]
    exact ⟨rfl, H1.out⟩

end Go.Proofs.Ytlhlkjllihbokaa.Chan
