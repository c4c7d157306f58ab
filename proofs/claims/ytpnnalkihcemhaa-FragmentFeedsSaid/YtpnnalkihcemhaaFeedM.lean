/- Messages that aren't whole, in memory: an element deleted; by the program. -/
import Derived.Test.YtpnnalkihcemhaaSlc3
import Derived.Test.YtpnnalkihcemhaaMapI
import Derived.Test.YtpnnalkihcemhaaApp2
import Derived.Test.YtpnnalkihcemhaaQTail
import Derived.Test.YtpnnalkihcemhaaFragO
set_option linter.unusedVariables false
set_option linter.unusedSimpArgs false
namespace Go.Proofs.Ytpnnalkihcemhaa.Frag
open Go.Sort Go.RowKit Go.Deep Go.Proofs.Ytpnnalkihcemhaa.Mem Go.Proofs.Ytpnnalkihcemhaa.Open Go.Proofs.Ytpnnalkihcemhaa.Num Go.Proofs.Ytpnnalkihcemhaa.Wr Go.Proofs.Ytpnnalkihcemhaa.Step Go.Proofs.YtpnnalkihcemhaaW.PrintWords

theorem info_msg : (Try.prog.info? 111).map (fun i => (i.zero, i.size, i.bytes)) = some (some (.agg #[.int .u16 0, .int .i64 0, .map none]), 3, 24) := by kernel_rfl
theorem zero_msg (w : World) : (zeroValue 111).run Try.prog w = .ok (.agg #[.int .u16 0, .int .i64 0, .map none]) w := by kernel_rfl
theorem zcells : (Builtin.zeroCells (Value.agg #[.int .u16 0, .int .i64 0, .map none]).cells 1).toList = [.int .u16 0, .int .i64 0, .map none] := by kernel_rfl
theorem zone : ∀ u ∈ ([.int .u16 0, .int .i64 0, .map none] : List Value), u.oneCell' = true := by
  intro u hu
  simp at hu
  rcases hu with rfl | rfl | rfl <;> rfl

/-- A row of elements of three cells. -/
def rows3 (L : List (List Value)) : List Value := L.flatMap id
def Three (L : List (List Value)) : Prop := ∀ x ∈ L, x.length = 3 ∧ ∀ u ∈ x, u.oneCell' = true
theorem rows3_len {L : List (List Value)} (h : Three L) : (rows3 L).length = L.length * 3 := by
  induction L with
  | nil => rfl
  | cons x L ih =>
    have h1 := (h x (by simp)).1
    have := ih (fun y hy => h y (List.mem_cons_of_mem _ hy))
    simp only [rows3, List.flatMap_cons, id, List.length_append, List.length_cons] at this ⊢
    omega
theorem rows3_split {L : List (List Value)} (k : Nat) : rows3 L = rows3 (L.take k) ++ rows3 (L.drop k) := by
  unfold rows3
  rw [← List.flatMap_append, List.take_append_drop]
theorem rows3_take {L : List (List Value)} (h : Three L) (k : Nat) (hk : k ≤ L.length) : (rows3 L).take (k * 3) = rows3 (L.take k) := by
  have h3 : (rows3 (L.take k)).length = k * 3 := by
    rw [rows3_len (fun x hx => h x (List.mem_of_mem_take hx)), List.length_take, Nat.min_eq_left hk]
  rw [rows3_split k, List.take_append_of_le_length (by omega), List.take_of_length_le (by omega)]
theorem rows3_at {L : List (List Value)} (h : Three L) (k : Nat) (hk : k < L.length) (i : Nat) (hi : i < 3) : (rows3 L)[k * 3 + i]? = L[k][i]? := by
  have h3 : (rows3 (L.take k)).length = k * 3 := by
    rw [rows3_len (fun x hx => h x (List.mem_of_mem_take hx)), List.length_take]; omega
  rw [rows3_split k, List.getElem?_append_right (by omega), h3, Nat.add_sub_cancel_left, List.drop_eq_getElem_cons hk]
  unfold rows3
  rw [List.flatMap_cons, List.getElem?_append_left (by rw [id, (h _ (List.getElem_mem hk)).1]; exact hi)]
  rfl
theorem rows3_one {L : List (List Value)} (h : Three L) : ∀ u ∈ rows3 L, u.oneCell' = true := by
  intro u hu
  obtain ⟨x, hx, hux⟩ := List.mem_flatMap.1 hu
  exact (h x hx).2 u hux
theorem rows3_erase {L : List (List Value)} (k : Nat) : rows3 (L.take k) ++ rows3 (L.drop (k + 1)) = rows3 (L.eraseIdx k) := by
  rw [List.eraseIdx_eq_take_drop_succ]
  unfold rows3
  rw [List.flatMap_append]

theorem dl_facts {i n N cap : Nat} (hi : i < N) (hn : N = n + 1) (hc : N ≤ cap) (hl : N ≤ 1000) : (0 : Int) ≤ (i : Int) ∧ (i : Int) ≤ (i : Int) + 1 ∧ (i : Int) + 1 ≤ (N : Int) ∧ (N : Int) ≤ (cap : Int) ∧ ((i : Int) == (i : Int) + 1) = false ∧ ¬ (i : Int) = (i : Int) + 1 ∧ ((i : Int) + 1).toNat = i + 1 ∧ i ≤ cap ∧ i + (n - i) = n ∧ N - (i + 1) = n - i ∧ (i : Int) ≤ (N : Int) ∧
    (0 : Int) ≤ (n : Int) ∧ (n : Int) ≤ (N : Int) ∧ (N : Int) - (n : Int) = 1 ∧ N - n = 1 ∧ n ≤ N ∧ n ≤ cap ∧ (n : Int) ≤ (cap : Int) ∧ (i : Int) ≤ (cap : Int) ∧ (0 : Int) ≤ (i : Int) + 1 ∧ (i : Int) + 1 ≤ (cap : Int) ∧ i + 1 ≤ N ∧ i + 1 ≤ cap ∧ i ≤ N ∧ ((N : Int) - ((i : Int) + 1)).toNat = n - i := by
  refine ⟨by omega, by omega, by omega, by omega, beq_eq_false_iff_ne.2 (by omega), by omega, by omega, by omega, by omega, by omega, by omega, by omega, by omega, by omega, by omega, by omega, by omega, by omega, by omega, by omega, by omega, by omega, by omega, by omega, by omega⟩

set_option maxRecDepth 100000 in
set_option maxHeartbeats 2000000 in
theorem mdel (W : World) (B : Nat) (w : World) (F : List Ent) (g cap : Nat) (L : List (List Value)) (N i : Nat) (hL : Three L) (hN : L.length = N) (hi : i < N) (hl : N ≤ 1000) (hH : Holds W B w (.rw (.slice (some ⟨g, 0, none⟩) N cap) 111 3 N (rows3 L) :: F)) :
    Calls Try.prog 48 #[.slice (some ⟨g, 0, none⟩) N cap, .int .i64 i, .int .i64 ((i : Int) + 1)] w fun e' w' => e' = .returned (.slice (some ⟨g, 0, none⟩) (N - 1 : Nat) cap) ∧ Holds W B w' (.rw (.slice (some ⟨g, 0, none⟩) (N - 1 : Nat) cap) 111 3 (N - 1) (rows3 (L.eraseIdx i)) :: F) := by
  obtain ⟨i0, ji, jz0, jz1, jz2⟩ := info_parts info_msg
  obtain ⟨g', cap', he, hc, _⟩ := hH.row (Nat.lt_of_le_of_lt (Nat.zero_le _) hi)
  simp only [Value.slice.injEq, Option.some.injEq, Addr.mk.injEq, true_and, and_true] at he
  obtain ⟨rfl, rfl⟩ := he
  obtain ⟨n, hn⟩ : ∃ n, N = n + 1 := ⟨N - 1, by omega⟩
  have hNn : N - 1 = n := by omega
  rw [hNn]
  obtain ⟨f1, f2, f3, f4, f5, f6, f7, f8, f9, f10, f11, f12, f13, f14, f15, f16, f17, f18, f19, f20, f21, f22, f23, f24, f25⟩ := dl_facts hi hn hc hl
  have HH := Lib.hid hH
  have HL3 := Lib.hid hL
  have HN := Lib.hid (And.intro hN (And.intro hn (And.intro hi hc)))
  have HF := Lib.hid (And.intro f9 (And.intro f10 (And.intro f16 f17)))
  clear hH hL hc hl hn hN hNn hi f9
  obtain ⟨ad, had, had2⟩ : ∃ ad : Addr, (if cap = i + 1 then some (⟨g, 0, none⟩ : Addr) else some ⟨g, (i + 1) * 3, none⟩) = some ad ∧ (ad = ⟨g, (i + 1) * 3, none⟩ ∨ cap = i + 1) := by
    by_cases h : cap = i + 1
    · exact ⟨_, if_pos h, .inr h⟩
    · exact ⟨_, if_neg h, .inl rfl⟩
  have HAD := Lib.hid had
  have HAD2 := Lib.hid had2
  clear had had2
  go_enter Try.func48, Try.ntmps48
  go_wp2_with fail
  refine QTail.region_tail_below 6 (by kernel_rfl) (by kernel_rfl) ?_
  simp only [List.take_succ_cons, List.take_zero, List.drop_succ_cons, List.drop_zero]
  repeat (go_big_quiet_step (fail))
  refine wpQuiet_nil ?_
  intro _ hw'
  obtain ⟨⟨dq, osq⟩, hw''⟩ := hw'
  subst hw''
  have hbx := below_regrown w dq osq
  generalize grow (redrawn w dq) osq = w4 at *
  rw [HAD.out]
  have h4 := Holds.belowed HH.out hbx
  have hi' := HN.out.2.2.1
  have hLl := HN.out.1
  have h5 := h4.shrink i (Nat.le_of_lt hi')
  rw [rows3_take HL3.out i (by rw [hLl]; exact Nat.le_of_lt hi')] at h5
  have hnl : (rows3 (L.drop (i + 1))).length = (n - i) * 3 := by
    rw [rows3_len (fun x hx => HL3.out x (List.mem_of_mem_drop hx)), List.length_drop, hLl, HN.out.2.1]; congr 1; omega
  have hcells : ∀ j u, (rows3 (L.drop (i + 1)))[j]? = some u → w4.cell? (ad.add j) = some u := by
    intro j u hu
    have hj : j < (n - i) * 3 := by rw [← hnl]; exact (List.getElem?_eq_some_iff.1 hu).1
    have had : ad = ⟨g, (i + 1) * 3, none⟩ := by
      rcases HAD2.out with h | h
      · exact h
      · exfalso; have := HN.out.2.2.2; have := HN.out.2.1; omega
    rw [had]
    have e : (⟨g, (i + 1) * 3, none⟩ : Addr).add j = ⟨g, (i + 1) * 3 + j, none⟩ := by unfold Addr.add; split <;> simp_all
    rw [e, h4.rcell ((i + 1) * 3 + j) (by have := HN.out.2.1; omega)]
    have h3 : (rows3 (L.take (i + 1))).length = (i + 1) * 3 := by
      rw [rows3_len (fun x hx => HL3.out x (List.mem_of_mem_take hx)), List.length_take]; omega
    rw [rows3_split (i + 1), List.getElem?_append_right (by omega), h3, Nat.add_sub_cancel_left]
    exact hu
  have hone : ∀ u ∈ rows3 (L.drop (i + 1)), u.oneCell' = true := rows3_one (fun x hx => HL3.out x (List.mem_of_mem_drop hx))
  have hroom : i + (n - i) ≤ cap := by rw [HF.out.1]; exact HF.out.2.2.2
  have H5 := Lib.hid h5
  have HC := Lib.hid (And.intro hcells (And.intro hone (And.intro hroom hnl)))
  clear h4 h5 hcells hone hroom hnl hbx HH hi' hLl
  go_wp2_with (at_builtin; refine wpList_append_fits _ rfl _ _ _ rfl B 111 i0 3 Try.underlying39 ji jz1 g i cap _ rfl H5.out.own ad (n - i) (cap - (i + 1)) _ rfl HC.out.2.2.2 HC.out.1 HC.out.2.1 HC.out.2.2.1 ?_)
  intro w6 ho hg
  rw [HF.out.1, rows3_erase i] at ho
  have h6 := H5.out.step (x' := .rw (.slice (some ⟨g, 0, none⟩) n cap) 111 3 n (rows3 (L.eraseIdx i))) hg ho (fun k hk => .inl hk)
  have H6 := Lib.hid h6
  clear ho hg h6 H5 HC
  have hclr := run_clear_one (P := Try.prog) w6 39 111 0 _ _ Try.underlying39 zero_msg zcells zone g (n * 3) (cap - n) (fun j hj => H6.out.thereS _ (by have := HN.out.2.1; have := HN.out.2.2.2; simp at hj; omega)) (fun j hj => H6.out.rfrozen _)
  have H7 := Lib.hid (H6.out.setsBehindS [.int .u16 0, .int .i64 0, .map none] (n * 3) (Nat.le_refl _))
  clear H6
  rw [HF.out.1]
  go_wp2_with fail
  go_ret
  exact ⟨rfl, H7.out⟩

end Go.Proofs.Ytpnnalkihcemhaa.Frag
