/- A channel's memory; the next number; by the program: slices.Delete of the first element. -/
import Derived.Test.YtlhlkjllihbokaaSlc
import Derived.Test.YtlhlkjllihbokaaSerialRow
import Derived.Test.YtlhlkjllihbokaaQTail
import Derived.Deep.Cut
import Derived.Deep.RegionHeld3
set_option linter.unusedVariables false
set_option linter.unusedSimpArgs false
namespace Go.Proofs.Ytlhlkjllihbokaa.Chan
open Go.Sort Go.RowKit Go.Proofs.Ytlhlkjllihbokaa.Mem Go.Proofs.Ytlhlkjllihbokaa.Open Go.Proofs.Ytlhlkjllihbokaa.Num Go.Proofs.Ytlhlkjllihbokaa.Step Go.Proofs.Ytlhlkjllihbokaa.Ser

def u16s (l : List Int) : List Value := l.map fun n => .int .u16 n
theorem u16s_len (l : List Int) : (u16s l).length = l.length := by simp [u16s]
theorem u16s_one (l : List Int) : ∀ u, u ∈ u16s l → u.oneCell' = true := by
  intro u hu
  obtain ⟨x, _, rfl⟩ := List.mem_map.1 hu
  rfl
theorem info_u16 : (Try.prog.info? 22).map (fun i => (i.zero, i.size, i.bytes)) = some (some (.int .u16 0), 1, 2) := by kernel_rfl
theorem zero_u16 (w : World) : (zeroValue 22).run Try.prog w = .ok (.int .u16 0) w := by kernel_rfl

theorem hbelowed' {W w w' : World} {B : Nat} {H : List Ent} (h : Holds W B w H) (hb : Below w.heap.size w w') : Holds W B w' H :=
  h.same ⟨hb.os, hb.tape, hb.output, hb.size, fun k hk _ => hb.block k hk⟩
theorem del_facts {n N cap : Nat} (hN : N = n + 1) (hc : N ≤ cap) (hl : N ≤ 1000) : (0 : Int) ≤ (N : Int) ∧ (1 : Int) ≤ (N : Int) ∧ (N : Int) ≤ (cap : Int) ∧ (N : Int) - 1 = (n : Int) ∧ ((N : Int) - 1).toNat = n ∧ (n : Int) ≤ (N : Int) ∧ (0 : Int) ≤ (n : Int) ∧ (N : Int) - (n : Int) = 1 ∧ n ≤ cap ∧ N - 1 = n ∧ N - n = 1 ∧ (1 : Int) ≤ (cap : Int) ∧ (n : Int) ≤ (cap : Int) ∧ n ≤ N ∧ 1 ≤ N ∧ 1 ≤ cap := by
  omega

set_option maxRecDepth 100000 in
set_option maxHeartbeats 1000000 in
theorem sdel (W : World) (B : Nat) (w : World) (F : List Ent) (g cap : Nat) (x : Int) (xs : List Int) (N : Nat) (hN : N = xs.length + 1) (hl : N ≤ 1000) (hH : Holds W B w (.rw (.slice (some ⟨g, 0, none⟩) N cap) 22 1 N (u16s (x :: xs)) :: F)) :
    Calls Try.prog 47 #[.slice (some ⟨g, 0, none⟩) N cap, .int .i64 0, .int .i64 1] w fun e' w' => e' = .returned (.slice (some ⟨g, 0, none⟩) xs.length cap) ∧ Holds W B w' (.rw (.slice (some ⟨g, 0, none⟩) xs.length cap) 22 1 xs.length (u16s xs) :: F) := by
  obtain ⟨i0, hi, hz0, hz1, hz2⟩ := info_parts info_u16
  obtain ⟨g', cap', he, hc, _⟩ := hH.row (by rw [hN]; exact Nat.succ_pos _)
  simp only [Value.slice.injEq, Option.some.injEq, Addr.mk.injEq, true_and, and_true] at he
  obtain ⟨rfl, rfl⟩ := he
  obtain ⟨n, hn⟩ : ∃ n, xs.length = n := ⟨_, rfl⟩
  rw [hn] at hN ⊢
  obtain ⟨f1, f2, f3, f4, f5, f6, f7, f8, f9, f10, f11, f12, f13, f14, f15, f16⟩ := del_facts hN hc hl
  have HH := Lib.hid hH
  have HN := Lib.hid hn
  have HF := Lib.hid (And.intro f9 (And.intro f14 hc))
  have HNN := Lib.hid hN
  clear hH hc hl hn hN
  obtain ⟨ad, had, had2⟩ : ∃ ad : Addr, (if cap = 1 then some (⟨g, 0, none⟩ : Addr) else some ⟨g, 1, none⟩) = some ad ∧ (ad = ⟨g, 1, none⟩ ∨ cap = 1) := by
    by_cases h : cap = 1
    · exact ⟨_, if_pos h, .inr h⟩
    · exact ⟨_, if_neg h, .inl rfl⟩
  have HAD := Lib.hid had
  have HAD2 := Lib.hid had2
  clear had had2
  go_enter Try.func47, Try.ntmps47
  go_wp2_with fail
  refine QTail.region_tail_below 6 (by kernel_rfl) (by kernel_rfl) ?_
  simp only [List.take_succ_cons, List.take_zero, List.drop_succ_cons, List.drop_zero]
  repeat (go_big_quiet_step (fail))
  refine wpQuiet_nil ?_
  intro _ hw'
  obtain ⟨⟨dq, osq⟩, hw''⟩ := hw'
  subst hw''
  have hbx := below_regrown w dq osq
  generalize grow (redrawn w dq) osq = w4 at *
  rw [HAD.out]
  have h4 := hbelowed' HH.out hbx
  have h5 := h4.shrink 0 (Nat.zero_le _)
  have hcells : ∀ j u, (u16s xs)[j]? = some u → w4.cell? (ad.add j) = some u := fun j u hu => by
    have hj : j < xs.length := by have := (List.getElem?_eq_some_iff.1 hu).1; rwa [u16s_len] at this
    have had : ad = ⟨g, 1, none⟩ := by
      rcases HAD2.out with h | h
      · exact h
      · have := HF.out; have := HNN.out; rw [HN.out] at hj; omega
    rw [had]
    have e : (⟨g, 1, none⟩ : Addr).add j = ⟨g, 1 + j, none⟩ := by unfold Addr.add; split <;> simp_all
    rw [e, h4.rcell (1 + j) (by rw [HN.out] at hj; have := HNN.out; omega), Nat.add_comm]
    exact hu
  have H5 := Lib.hid h5
  have HC := Lib.hid hcells
  clear h4 h5 hcells hbx HH
  go_wp2_with (at_builtin; refine wpList_append_fits _ rfl _ _ _ rfl B 22 i0 1 Try.underlying27 hi hz1 g 0 cap _ rfl H5.out.own ad n (cap - 1) (u16s xs) rfl ?c1 HC.out (u16s_one _) ?c2 ?_)
  case c1 => rw [u16s_len, HN.out, Nat.mul_one]
  case c2 => rw [Nat.zero_add]; exact HF.out.1
  intro w6 ho hg
  have h6 := H5.out.step (x' := .rw (.slice (some ⟨g, 0, none⟩) n cap) 22 1 n (u16s xs)) hg ho (fun k hk => .inl hk)
  have H6 := Lib.hid h6
  clear ho hg h6 H5 HC
  have hclr := Lib.run_clear_slice (P := Try.prog) w6 27 22 0 (.int .u16 0) Try.underlying27 zero_u16 rfl rfl g n 1 (cap - n) (by decide) (fun j hj => H6.out.there _ (by have := HF.out; have := HNN.out; omega)) (fun j hj => H6.out.rfrozen _)
  have H7 := Lib.hid (H6.out.setsBehind (List.replicate 1 (.int .u16 0)) n (Nat.le_refl _))
  clear H6
  go_wp2_with fail
  go_ret
  exact ⟨rfl, H7.out⟩

end Go.Proofs.Ytlhlkjllihbokaa.Chan
