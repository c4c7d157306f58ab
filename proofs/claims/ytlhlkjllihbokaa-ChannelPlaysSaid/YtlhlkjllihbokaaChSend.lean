/- A channel's next header; by the program. -/
import Derived.Test.YtlhlkjllihbokaaChP
import Derived.Deep.AppendLies
import Derived.Test.YtlhlkjllihbokaaMix
set_option linter.unusedVariables false
set_option linter.unusedSimpArgs false
namespace Go.Proofs.Ytlhlkjllihbokaa.Chan
open Go.Sort Go.RowKit Go.Proofs.Ytlhlkjllihbokaa.Mem Go.Proofs.Ytlhlkjllihbokaa.Open Go.Proofs.Ytlhlkjllihbokaa.Num Go.Proofs.Ytlhlkjllihbokaa.Step Go.Proofs.Ytlhlkjllihbokaa.Ser

def nextO (op : List Int) (n : Int) : List Int := if 64 < (op ++ [n]).length then (op ++ [n]).drop 1 else op ++ [n]
def ChS (W : World) (B : Nat) (w : World) (b : Nat) (next : Int) (x : Win) (op : List Int) (F : List Ent) : Prop :=
  ∃ v, Holds W B w (.st b [.int .u16 next, .bool x.any, .int .u16 x.last, .int .u32 x.mask, v] 43 :: .rw v 22 1 op.length (u16s op) :: F)

theorem one_u16 (x : Int) : ∀ u ∈ [Value.int .u16 x], u.oneCell' = true := by intro u hu; simp at hu; subst hu; rfl
theorem grew_lies {W w w' : World} {B : Nat} {F : List Ent} {v : Value} {e : TypeId} {size n n' g cap : Nat} {xs xs' : List Value} (h : Holds W B w (.rw v e size n xs :: F))
    (ho : w'.ownsRow B e size (.slice (some ⟨g, 0, none⟩) n' cap) n' xs') (hg : w.grownBy w' v.ownBlock) (hat : v.ownBlock = some g ∨ g = w.heap.size) :
    Holds W B w' (.rw (.slice (some ⟨g, 0, none⟩) n' cap) e size n' xs' :: F) := by
  refine h.grew ho hg ?_
  rcases hat with h1 | h1
  · exact .inl h1.symm
  · exact .inr ⟨g, rfl, by omega⟩

set_option maxRecDepth 100000 in
set_option maxHeartbeats 1000000 in
theorem csend (W : World) (B : Nat) (w : World) (b : Nat) (next : Int) (x : Win) (op : List Int) (F : List Ent) (hn0 : 0 ≤ next) (hn1 : next < 65536) (hop : op.length ≤ 64) (hH : ChS W B w b next x op F) :
    Calls Try.prog 32 #[.pointer (some ⟨b, 0, none⟩)] w fun e' w' => e' = .returned (.agg #[.int .u16 next, .bool x.any, .int .u16 x.last, .int .u32 x.mask]) ∧ ChS W B w' b ((next + 1) % 65536) x (nextO op next) F := by
  obtain ⟨i0, hi, hz0, hz1, hz2⟩ := info_parts info_u16
  obtain ⟨v, hH⟩ := hH
  obtain ⟨A, c, rfl⟩ := hH.up1.slice
  obtain ⟨any, last, mask⟩ := x
  dsimp only at hH ⊢
  have h1 := hH.alloc [.int .u16 0, .bool false, .int .u16 0, .int .u32 0] 56
  have e0 := h1.up1.cell 0 rfl
  have e1 := h1.up1.cell 1 rfl
  have e2 := h1.up1.cell 2 rfl
  have e3 := h1.up1.cell 3 rfl
  have H1 := Lib.hid h1
  clear h1 hH
  go_enter Try.func32, Try.ntmps32
  go_wp2_with fail
  generalize w.alloc (.cells #[.int .u16 0, .bool false, .int .u16 0, .int .u32 0] 56) = w1 at *
  have hkeep : ∀ (w' : World) (o : Obj), (w'.cell? ⟨b, 0, none⟩ = some (.int .u16 next) ∧ w'.cell? ⟨b, 1, none⟩ = some (.bool any) ∧ w'.cell? ⟨b, 2, none⟩ = some (.int .u16 last) ∧ w'.cell? ⟨b, 3, none⟩ = some (.int .u32 mask)) → ((w'.alloc o).cell? ⟨b, 0, none⟩ = some (.int .u16 next) ∧ (w'.alloc o).cell? ⟨b, 1, none⟩ = some (.bool any) ∧ (w'.alloc o).cell? ⟨b, 2, none⟩ = some (.int .u16 last) ∧ (w'.alloc o).cell? ⟨b, 3, none⟩ = some (.int .u32 mask)) := fun w' o h => by
    have hk : ∀ {a : Addr} {u : Value}, w'.cell? a = some u → (w'.alloc o).cell? a = some u := fun {a u} h => by
      rw [World.cell?_alloc_lt _ _ _ (World.block_lt_of_cell? w' a h)]; exact h
    exact ⟨hk h.1, hk h.2.1, hk h.2.2.1, hk h.2.2.2⟩
  have hkeepd : ∀ (w' : World), (w'.cell? ⟨b, 0, none⟩ = some (.int .u16 next) ∧ w'.cell? ⟨b, 1, none⟩ = some (.bool any) ∧ w'.cell? ⟨b, 2, none⟩ = some (.int .u16 last) ∧ w'.cell? ⟨b, 3, none⟩ = some (.int .u32 mask)) → (w'.drew.cell? ⟨b, 0, none⟩ = some (.int .u16 next) ∧ w'.drew.cell? ⟨b, 1, none⟩ = some (.bool any) ∧ w'.drew.cell? ⟨b, 2, none⟩ = some (.int .u16 last) ∧ w'.drew.cell? ⟨b, 3, none⟩ = some (.int .u32 mask)) := fun _ h => h
  have hS1 : w1.cell? ⟨b, 0, none⟩ = some (.int .u16 next) ∧ w1.cell? ⟨b, 1, none⟩ = some (.bool any) ∧ w1.cell? ⟨b, 2, none⟩ = some (.int .u16 last) ∧ w1.cell? ⟨b, 3, none⟩ = some (.int .u32 mask) := ⟨e0, e1, e2, e3⟩
  go_region_held3 (fun w' => w'.cell? ⟨b, 0, none⟩ = some (.int .u16 next) ∧ w'.cell? ⟨b, 1, none⟩ = some (.bool any) ∧ w'.cell? ⟨b, 2, none⟩ = some (.int .u16 last) ∧ w'.cell? ⟨b, 3, none⟩ = some (.int .u32 mask))
    (((try dsimp only); (repeat (first | with_reducible refine hkeepd _ ?_ | with_reducible refine hkeep _ _ ?_)); with_reducible exact hS1))
    (first | fail)
  go_wp2_with fail
  have h2 := ((H1.out.alloc [.int .u16 next, .bool any, .int .u16 last, .int .u32 mask] 56).drew).up2.up3
  have HX := Lib.hid h2
  have hlt1 : w1.heap.size < (w1.alloc (.cells #[.int .u16 next, .bool any, .int .u16 last, .int .u32 mask] 56)).drew.heap.size := by simp [World.drew]
  clear h2 H1 hkeep hkeepd hS1 e0 e1 e2 e3
  generalize hw2 : (w1.alloc (.cells #[.int .u16 next, .bool any, .int .u16 last, .int .u32 mask] 56)).drew = w2 at *
  have HB1 := Lib.hid (show op.length + 1 ≤ maxLen by unfold maxLen; omega)
  have HB2 := Lib.hid (show (op.length + 1) * 2 ≤ 140737488355328 by omega)
  have hS1 : (w2.drew.cell? ⟨b, 0, none⟩ = some (.int .u16 next) ∧ w2.drew.cell? ⟨b, 4, none⟩ = some (.slice A op.length c) ∧ w2.drew.frozen? ⟨b, 4, none⟩ = false) := ⟨HX.out.up1.cell 0 rfl, HX.out.up1.cell 4 rfl, HX.out.up1.frozen 4⟩
  refine Mix.region 11 (fun w' => (w'.cell? ⟨b, 0, none⟩ = some (.int .u16 next) ∧ w'.cell? ⟨b, 4, none⟩ = some (.slice A op.length c) ∧ w'.frozen? ⟨b, 4, none⟩ = false)) (by kernel_rfl) ?_
  simp only [List.size_toArray, List.length_cons, List.length_nil]
  refine Mix.at_take (i := 0) (v := ?_) rfl (by kernel_rfl) (by kernel_rfl) (by kernel_rfl) (by kernel_rfl) (by kernel_rfl) (by kernel_rfl) (by kernel_rfl) (fun _ _ _ h => h) (Or.inl ⟨by rfl, ?_⟩) hS1 ?_
  rotate_left
  · intro w hSw
    (try dsimp only at hSw)
    go_simp
    try (with_reducible rfl)
  simp only [Act.put, List.setIfInBounds_toArray, List.set_cons_zero, List.set_cons_succ]
  refine Mix.at_take (i := 1) (v := ?_) rfl (by kernel_rfl) (by kernel_rfl) (by kernel_rfl) (by kernel_rfl) (by kernel_rfl) (by kernel_rfl) (by kernel_rfl) (fun _ _ _ h => h) (Or.inl ⟨by rfl, ?_⟩) hS1 ?_
  rotate_left
  · intro w hSw
    (try dsimp only at hSw)
    go_simp
    try (with_reducible rfl)
  simp only [Act.put, List.setIfInBounds_toArray, List.set_cons_zero, List.set_cons_succ]
  refine Mix.at_take (i := 2) (v := ?_) rfl (by kernel_rfl) (by kernel_rfl) (by kernel_rfl) (by kernel_rfl) (by kernel_rfl) (by kernel_rfl) (by kernel_rfl) (fun _ _ _ h => h) (Or.inl ⟨by rfl, ?_⟩) hS1 ?_
  rotate_left
  · intro w hSw
    (try dsimp only at hSw)
    go_simp
    try (with_reducible rfl)
  simp only [Act.put, List.setIfInBounds_toArray, List.set_cons_zero, List.set_cons_succ]
  refine Mix.at_take (i := 3) (v := ?_) rfl (by kernel_rfl) (by kernel_rfl) (by kernel_rfl) (by kernel_rfl) (by kernel_rfl) (by kernel_rfl) (by kernel_rfl) (fun _ _ _ h => h) (Or.inl ⟨by rfl, ?_⟩) hS1 ?_
  rotate_left
  · intro w hSw
    (try dsimp only at hSw)
    go_simp
    try (with_reducible rfl)
  simp only [Act.put, List.setIfInBounds_toArray, List.set_cons_zero, List.set_cons_succ]
  refine Mix.at_take (i := 4) (v := ?_) rfl (by kernel_rfl) (by kernel_rfl) (by kernel_rfl) (by kernel_rfl) (by kernel_rfl) (by kernel_rfl) (by kernel_rfl) (fun _ _ _ h => h) (Or.inl ⟨by rfl, ?_⟩) hS1 ?_
  rotate_left
  · intro w hSw
    (try dsimp only at hSw)
    go_simp
    try (with_reducible rfl)
  simp only [Act.put, List.setIfInBounds_toArray, List.set_cons_zero, List.set_cons_succ]
  refine Mix.at_take (i := 5) (v := ?_) rfl (by kernel_rfl) (by kernel_rfl) (by kernel_rfl) (by kernel_rfl) (by kernel_rfl) (by kernel_rfl) (by kernel_rfl) (fun _ _ _ h => h) (Or.inl ⟨by rfl, ?_⟩) hS1 ?_
  rotate_left
  · intro w hSw
    (try dsimp only at hSw)
    go_simp
    try (with_reducible rfl)
  simp only [Act.put, List.setIfInBounds_toArray, List.set_cons_zero, List.set_cons_succ]
  refine Mix.at_take (i := 6) (v := ?_) rfl (by kernel_rfl) (by kernel_rfl) (by kernel_rfl) (by kernel_rfl) (by kernel_rfl) (by kernel_rfl) (by kernel_rfl) (fun _ _ _ h => h) (Or.inl ⟨by rfl, ?_⟩) hS1 ?_
  rotate_left
  · intro w hSw
    (try dsimp only at hSw)
    go_simp
    try (with_reducible rfl)
  simp only [Act.put, List.setIfInBounds_toArray, List.set_cons_zero, List.set_cons_succ]
  refine Mix.at_take (i := 7) (v := ?_) rfl (by kernel_rfl) (by kernel_rfl) (by kernel_rfl) (by kernel_rfl) (by kernel_rfl) (by kernel_rfl) (by kernel_rfl) (fun _ _ _ h => h) (Or.inl ⟨by rfl, ?_⟩) hS1 ?_
  rotate_left
  · intro w hSw
    (try dsimp only at hSw)
    go_simp
    try (with_reducible rfl)
  simp only [Act.put, List.setIfInBounds_toArray, List.set_cons_zero, List.set_cons_succ]
  refine Mix.at_take (i := 8) (v := ?_) rfl (by kernel_rfl) (by kernel_rfl) (by kernel_rfl) (by kernel_rfl) (by kernel_rfl) (by kernel_rfl) (by kernel_rfl) (fun _ _ _ h => h) (Or.inl ⟨by rfl, ?_⟩) hS1 ?_
  rotate_left
  · intro w hSw
    (try dsimp only at hSw)
    go_simp
    try (with_reducible rfl)
  simp only [Act.put, List.setIfInBounds_toArray, List.set_cons_zero, List.set_cons_succ]
  refine Mix.at_step (i := 9) rfl (by kernel_rfl) (by kernel_rfl) (by rfl) ?_
  go_simp
  refine ⟨⟨(HX.out.alloc' _).up1.cell 0 rfl, (HX.out.alloc' _).up1.cell 4 rfl, (HX.out.alloc' _).up1.frozen 4⟩, ?_⟩
  clear hS1
  refine Mix.at_step (i := 10) rfl (by kernel_rfl) (by kernel_rfl) (by rfl) ?_
  refine wp_append_lies _ (.tmp 31) (.tmp 36) 27 rfl B 22 i0 (.int .u16 0) 1 2 Try.underlying27 hi hz0 hz1 hz2 rfl (by decide) _ op.length _ rfl (HX.out.alloc' (.cells #[.int .u16 next] 22)).drew.own ⟨_, 0, none⟩ 1 1 [_] rfl rfl (cell_one_new w2 _ _) (one_u16 _) (by decide) HB1.out HB2.out (HX.out.alloc' (.cells #[.int .u16 next] 22)).drew.size _ rfl ?_
  intro g2 cp2 wn ho hg hat hlt2
  have hx := grew_lies (HX.out.alloc' (.cells #[.int .u16 next] 22)).drew ho hg hat
  have e0n := hx.up1.cell 0 rfl
  have f0n := hx.up1.frozen 0
  have e4n := hx.up1.cell 4 (v := .slice A op.length c) rfl
  have f4n := hx.up1.frozen 4
  have HX2 := Lib.hid hx
  clear hx ho hg hat hlt2 HX
  refine ⟨⟨e0n, e4n, f4n⟩, ?_⟩
  simp only [Act.put, List.setIfInBounds_toArray, List.set_cons_zero, List.set_cons_succ]
  refine Mix.at_tail _ rfl rfl (by kernel_rfl) ?_
  simp only [List.drop_succ_cons, List.drop_zero]
  have hw16 : IntKind.u16.wrap (next + 1) = (next + 1) % 65536 := by rw [wrap_u16]
  by_cases h64 : op.length = 64
  · have t64 : decide ((64 : Int) < (op.length : Int) + 1) = true := by rw [h64]; rfl
    have t64' : (64 : Int) < (op.length : Int) + 1 := by rw [h64]; decide
    obtain ⟨x, op', hop'⟩ : ∃ x op', op = x :: op' := by
      cases op with
      | nil => simp at h64
      | cons x op' => exact ⟨x, op', rfl⟩
    have hrow : u16s op ++ [Value.int .u16 next] = u16s (x :: (op' ++ [next])) := by rw [hop']; simp [u16s]
    have hlen : (op' ++ [next]).length = op.length := by rw [hop']; simp
    have h3 := (HX2.out.up1.set 4 (.slice (some ⟨g2, 0, none⟩) (op.length + 1) cp2)).up1
    rw [hrow] at h3
    have hd := sdel W B _ _ g2 cp2 x (op' ++ [next]) (op.length + 1) (by rw [hlen]) (by omega) h3
    rw [hlen] at hd
    have HD := Lib.hid hd
    have hno : nextO op next = op' ++ [next] := by
      unfold nextO
      rw [if_pos (by rw [List.length_append, h64]; simp), hop']
      rfl
    have HNO := Lib.hid hno
    clear hno
    have HLEN := Lib.hid hlen
    clear h64 h3 hd hrow hop' hlen HX2
    go_wp2_with fail
    refine HD.out.mono ?_
    rintro e' w5 ⟨rfl, h5⟩
    have k4 := h5.up1.cell 4 rfl
    have kf4 := h5.up1.frozen 4
    have h6 := h5.up1.set 4 (.slice (some ⟨g2, 0, none⟩) op.length cp2)
    have k0 := h6.cell 0 rfl
    have kf0 := h6.frozen 0
    have h7 := h6.set 0 (.int .u16 ((next + 1) % 65536))
    simp only [List.set] at h7
    have HZ := Lib.hid h7
    clear h5 h6 h7 HD e0n f0n e4n f4n t64 t64'
    have q0 := HZ.out.up2.cell 0 rfl
    have q1 := HZ.out.up2.cell 1 rfl
    have q2 := HZ.out.up2.cell 2 rfl
    have q3 := HZ.out.up2.cell 3 rfl
    have s0 := HZ.out.up3
    have c0 := s0.cell 0 rfl
    have f0 := s0.frozen 0
    have s1 := s0.set 0 (.int .u16 next)
    have c1 := s1.cell 1 rfl
    have f1 := s1.frozen 1
    have s2 := s1.set 1 (.bool any)
    have c2 := s2.cell 2 rfl
    have f2 := s2.frozen 2
    have s3 := s2.set 2 (.int .u16 last)
    have c3 := s3.cell 3 rfl
    have f3 := s3.frozen 3
    have s4 := s3.set 3 (.int .u32 mask)
    simp only [List.set] at s4
    have S4 := Lib.hid s4
    clear s0 s1 s2 s3 s4 HZ
    go_wp2_with fail
    have hz := S4.out
    refine bodyPost_ret (results_cell_row rfl _ _ _ _ _ _ _ rfl hz.head.2 Try.underlying56 rfl (by kernel_rfl)) rfl ?_
    refine ⟨rfl, .slice (some ⟨g2, 0, none⟩) op.length cp2, ?_⟩
    rw [HNO.out, HLEN.out]
    exact hz.tail.up2.tail
  · have t64' : ¬ (64 : Int) < (op.length : Int) + 1 := by omega
    have t64 : decide ((64 : Int) < (op.length : Int) + 1) = false := decide_eq_false t64'
    have hno : nextO op next = op ++ [next] := by
      unfold nextO
      rw [if_neg (by rw [List.length_append, List.length_singleton]; omega)]
    have HNO := Lib.hid hno
    clear hno
    have h3 := (HX2.out.up1.set 4 (.slice (some ⟨g2, 0, none⟩) (op.length + 1) cp2)).set 0 (.int .u16 ((next + 1) % 65536))
    simp only [List.set] at h3
    have HZ := Lib.hid h3
    clear h3 h64 HX2
    have q0 := HZ.out.up2.cell 0 rfl
    have q1 := HZ.out.up2.cell 1 rfl
    have q2 := HZ.out.up2.cell 2 rfl
    have q3 := HZ.out.up2.cell 3 rfl
    have s0 := HZ.out.up3
    have c0 := s0.cell 0 rfl
    have f0 := s0.frozen 0
    have s1 := s0.set 0 (.int .u16 next)
    have c1 := s1.cell 1 rfl
    have f1 := s1.frozen 1
    have s2 := s1.set 1 (.bool any)
    have c2 := s2.cell 2 rfl
    have f2 := s2.frozen 2
    have s3 := s2.set 2 (.int .u16 last)
    have c3 := s3.cell 3 rfl
    have f3 := s3.frozen 3
    have s4 := s3.set 3 (.int .u32 mask)
    simp only [List.set] at s4
    have S4 := Lib.hid s4
    clear s0 s1 s2 s3 s4 HZ
    go_wp2_with fail
    have hz := S4.out
    refine bodyPost_ret (results_cell_row rfl _ _ _ _ _ _ _ rfl hz.head.2 Try.underlying56 rfl (by kernel_rfl)) rfl ?_
    refine ⟨rfl, .slice (some ⟨g2, 0, none⟩) (op.length + 1) cp2, ?_⟩
    rw [HNO.out, List.length_append, List.length_singleton, show u16s (op ++ [next]) = u16s op ++ [Value.int .u16 next] by simp [u16s]]
    exact hz.tail.up2.tail

end Go.Proofs.Ytlhlkjllihbokaa.Chan
