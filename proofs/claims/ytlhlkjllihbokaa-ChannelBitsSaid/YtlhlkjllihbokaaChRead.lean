/- A channel's header put by the reference, and read, of whatever bits; by the program and by the reference. -/
import Derived.Test.YtlhlkjllihbokaaChPut
set_option linter.unusedVariables false
set_option linter.unusedSimpArgs false
namespace Go.Proofs.Ytlhlkjllihbokaa.Chan
open Go.Sort Go.RowKit Go.Proofs.Ytlhlkjllihbokaa.Mem Go.Proofs.Ytlhlkjllihbokaa.Open Go.Proofs.Ytlhlkjllihbokaa.Num Go.Proofs.Ytlhlkjllihbokaa.Step Go.Proofs.Ytlhlkjllihbokaa.Ser Go.Proofs.Ytlhlkjllihbokaa.Wr Go.Proofs.Ytlhlkjllihbokaa.Bits Go.Proofs.Ytlhlkjllihbokaa.RRd Go.Proofs.YtlhlkjllihbokaaW.PrintWords

set_option maxHeartbeats 1000000 in
theorem rchput (W : World) (B : Nat) (w : World) (b : Nat) (t : TypeId) (L : List Bool) (F : List Ent) (n a m : Int) (any : Bool) (hw : HasB W B w b t L F) (hL : L.length ≤ 1000) (hok : HdrOk n a m) :
    Calls Try.prog 23 #[.pointer (some ⟨b, 0, none⟩), .agg #[.int .u16 n, .bool any, .int .u16 a, .int .u32 m]] w fun e' w' => e' = .returned (.tuple #[]) ∧ HasB W B w' b t (L ++ hdrB n any a m) F := by
  obtain ⟨h1, h2, h3, h4, h5, h6⟩ := hok
  obtain ⟨v0, hH⟩ := hw
  have hx := (hH.alloc [.int .u16 n, .bool any, .int .u16 a, .int .u32 m] 65).up2.up2
  have e0 := hx.up2.cell 0 rfl
  obtain ⟨p1, p2, p3⟩ := u64_16 h1 h2
  obtain ⟨q1, q2, q3⟩ := u64_16 h3 h4
  obtain ⟨r1, r2, r3⟩ := u64_32 h5 h6
  have hp := rput W B _ b t L _ n 16 ⟨v0, hx⟩ h1 p3 (by decide) (by decide) (by omega)
  have HP := Lib.hid hp
  have HL := Lib.hid hL
  have HR := Lib.hid (And.intro h3 (And.intro q3 (And.intro h5 r3)))
  clear hH hx hp hL h1 h2 h3 h4 h5 h6 p3 q3 r3
  go_enter Try.func23, Try.ntmps23
  go_wp2_with fail
  refine HP.out.mono ?_
  rintro e' w1 ⟨rfl, v1, h1⟩
  have e1 := h1.up2.cell 1 rfl
  have hp := rput W B w1 b t _ _ (b01 any) 1 ⟨v1, h1⟩ (by cases any <;> decide) (by cases any <;> decide) (by decide) (by decide) (by have := HL.out; simp [bitsOf_length]; omega)
  have HP1 := Lib.hid hp
  clear hp h1 HP e0 p1 p2
  cases any with
  | true =>
    go_wp2_with fail
    refine HP1.out.mono ?_
    rintro e' w2 ⟨rfl, v2, h2⟩
    have e2 := h2.up2.cell 2 rfl
    have hp := rput W B w2 b t _ _ a 16 ⟨v2, h2⟩ HR.out.1 HR.out.2.1 (by decide) (by decide) (by have := HL.out; simp [bitsOf_length]; omega)
    have HP2 := Lib.hid hp
    clear hp h2 HP1
    go_wp2_with fail
    refine HP2.out.mono ?_
    rintro e' w3 ⟨rfl, v3, h3⟩
    have e3 := h3.up2.cell 3 rfl
    have hp := rput W B w3 b t _ _ m 32 ⟨v3, h3⟩ HR.out.2.2.1 HR.out.2.2.2 (by decide) (by decide) (by have := HL.out; simp [bitsOf_length]; omega)
    have HP3 := Lib.hid hp
    clear hp h3 HP2 e2
    go_wp2_with fail
    refine HP3.out.mono ?_
    rintro e' w4 ⟨rfl, v4, h4⟩
    have H4 := Lib.hid h4
    clear h4 HP3 e3
    go_wp2_with fail
    go_end0
    refine ⟨rfl, v4, ?_⟩
    have := H4.out.up2.tail
    unfold hdrB
    simp only [← List.append_assoc]
    exact this
  | false =>
    go_wp2_with fail
    refine HP1.out.mono ?_
    rintro e' w2 ⟨rfl, v2, h2⟩
    have e2 := h2.up2.cell 2 rfl
    have hp := rput W B w2 b t _ _ a 16 ⟨v2, h2⟩ HR.out.1 HR.out.2.1 (by decide) (by decide) (by have := HL.out; simp [bitsOf_length]; omega)
    have HP2 := Lib.hid hp
    clear hp h2 HP1
    go_wp2_with fail
    refine HP2.out.mono ?_
    rintro e' w3 ⟨rfl, v3, h3⟩
    have e3 := h3.up2.cell 3 rfl
    have hp := rput W B w3 b t _ _ m 32 ⟨v3, h3⟩ HR.out.2.2.1 HR.out.2.2.2 (by decide) (by decide) (by have := HL.out; simp [bitsOf_length]; omega)
    have HP3 := Lib.hid hp
    clear hp h3 HP2 e2
    go_wp2_with fail
    refine HP3.out.mono ?_
    rintro e' w4 ⟨rfl, v4, h4⟩
    have H4 := Lib.hid h4
    clear h4 HP3 e3
    go_wp2_with fail
    go_end0
    refine ⟨rfl, v4, ?_⟩
    have := H4.out.up2.tail
    unfold hdrB
    simp only [← List.append_assoc]
    exact this

theorem x16 {x : Nat} (h : x < 2 ^ 16) : IntKind.u16.wrap (x : Int) = (x : Int) ∧ (x : Int) % 65536 = (x : Int) := by
  have e : 2 ^ 16 = 65536 := by decide
  rw [wrap_u16]; omega
theorem x32 {x : Nat} (h : x < 2 ^ 32) : IntKind.u32.wrap (x : Int) = (x : Int) ∧ (x : Int) % 4294967296 = (x : Int) := by
  have e : 2 ^ 32 = 4294967296 := by decide
  have : IntKind.u32.wrap (x : Int) = (x : Int) % 4294967296 := by simp [IntKind.wrap, IntKind.bits, IntKind.signed]
  rw [this]; omega
theorem flag_cases {x : Nat} (h : x < 2 ^ 1) : x = 0 ∨ x = 1 := by omega
theorem ne0 {x : Nat} (h : x ≠ 0) : ((x : Int) != 0) = true := by simp only [bne_iff_ne, ne_eq]; omega
theorem eq0 {x : Nat} : ((x : Int) = 0) ↔ x = 0 := by omega
theorem sum0 {x y : Nat} (hx : x < 2 ^ 16) (hy : y < 2 ^ 32) : ∃ z : Nat, IntKind.u64.wrap ((x : Int) + (y : Int)) = (z : Int) ∧ ((x : Int) + (y : Int)) % 18446744073709551616 = (z : Int) ∧ z = x + y := by
  have e1 : 2 ^ 16 = 65536 := by decide
  have e2 : 2 ^ 32 = 4294967296 := by decide
  exact ⟨x + y, by rw [wrap_u64]; omega, by omega, rfl⟩
theorem pos_of {x y z : Nat} (h : z = x + y) (h0 : ¬ (x = 0 ∧ y = 0)) : decide ((0 : Int) < (z : Int)) = true ∧ (0 : Int) < (z : Int) ∧ 0 < z := by
  have : 0 < z := by omega
  exact ⟨decide_eq_true (by omega), by omega, this⟩

/-- The header behind four readings of a reader that has not failed. -/
def fourH (x1 x2 x3 x4 : Nat) : Int × Bool × Int × Int × Bool := if x2 = 0 ∧ ¬ (x3 = 0 ∧ x4 = 0) then (0, false, 0, 0, false) else ((x1 : Int), decide ((x2 : Int) = 1), (x3 : Int), (x4 : Int), true)
theorem four_end {L : List Bool} {fl : Bool} {a x1 x2 x3 x4 : Nat} (h : Far L 65 fl a) (e1 : fl = false → (x1 : Int) = val (L.take 16)) (e2 : fl = false → (x2 : Int) = val ((L.drop 16).take 1)) (e3 : fl = false → (x3 : Int) = val ((L.drop 17).take 16)) (e4 : fl = false → (x4 : Int) = val ((L.drop 33).take 32)) :
    (fl = true ∧ readH L = (0, false, 0, 0, false)) ∨ (fl = false ∧ readH L = fourH x1 x2 x3 x4) := by
  rcases far_end (x1 := x1) (x2 := x2) (x3 := x3) (x4 := x4) h with h | ⟨h, h2⟩
  · exact .inl h
  · refine .inr ⟨h, ?_⟩
    rw [h2 (e1 h) (e2 h) (e3 h) (e4 h)]
    unfold fourH
    simp only [eq0]

/-- What a reading answers. -/
def ReadPost (W : World) (B : Nat) (F : List Ent) (L : List Bool) (e' : Ending) (w' : World) : Prop :=
  ∃ (n a m : Int) (any ok : Bool), readH L = (n, any, a, m, ok) ∧ e' = .returned (.tuple #[.agg #[.int .u16 n, .bool any, .int .u16 a, .int .u32 m], .bool ok]) ∧ Holds W B w' F
theorem ReadPost.mk {W : World} {B : Nat} {w' : World} {F : List Ent} {L : List Bool} {n a m : Int} {any ok : Bool} (h : readH L = (n, any, a, m, ok)) (hH : Holds W B w' F) :
    ReadPost W B F L (.returned (.tuple #[.agg #[.int .u16 n, .bool any, .int .u16 a, .int .u32 m], .bool ok])) w' := ⟨n, a, m, any, ok, h, rfl, hH⟩
theorem ne0f {x : Nat} (h : x = 0) : ((x : Int) != 0) = false := by subst h; rfl
theorem fourH_no {x1 x2 x3 x4 : Nat} (h : x2 = 0) (h1 : ¬ (x3 = 0 ∧ x4 = 0)) : fourH x1 x2 x3 x4 = (0, false, 0, 0, false) := if_pos ⟨h, h1⟩
theorem fourH_yes {x1 x2 x3 x4 : Nat} {any : Bool} (h : ((x2 : Int) == 1) = any) (h0 : x2 = 0 ∨ x2 = 1) (h1 : any = true ∨ (x3 = 0 ∧ x4 = 0)) : fourH x1 x2 x3 x4 = ((x1 : Int), any, (x3 : Int), (x4 : Int), true) := by
  subst h
  unfold fourH
  rcases h0 with rfl | rfl
  · rcases h1 with h1 | h1
    · exact absurd h1 (by decide)
    · rw [if_neg (by rintro ⟨_, h⟩; exact h h1)]; rfl
  · rw [if_neg (by rintro ⟨h, _⟩; exact absurd h (by decide))]; rfl
theorem two_no {x2 : Nat} (h : ((x2 : Int) == 1) = false) (h0 : x2 = 0 ∨ x2 = 1) : x2 = 0 := by
  rcases h0 with h0 | rfl
  · exact h0
  · exact absurd h (by decide)

set_option maxRecDepth 100000 in
set_option maxHeartbeats 2000000 in
theorem chread (W : World) (B : Nat) (w : World) (b : Nat) (t : TypeId) (bs : List Int) (F : List Ent) (hw : HasR W B w b t bs 0 false F) (hb : bytesOk bs) :
    Calls Try.prog 24 #[.pointer (some ⟨b, 0, none⟩)] w fun e' w' => ReadPost W B F (bitsB bs) e' w' := by
  obtain ⟨v0, hH⟩ := hw
  have hx := (hH.alloc [.int .u16 0, .bool false, .int .u16 0, .int .u32 0] 56).up2.up2
  have ht := rtk W B _ b t bs 0 false _ 16 ⟨v0, hx⟩ hb (Nat.zero_le _) (by decide)
  rw [show ((16 : Nat) : Int) = 16 from rfl] at ht
  have HT := Lib.hid ht
  have HBK := Lib.hid hb
  have HLL := Lib.hid (bitsB_length bs)
  obtain ⟨L, hL⟩ : ∃ L, bitsB bs = L := ⟨_, rfl⟩
  rw [hL] at HLL HT ⊢
  have HLB := Lib.hid hL
  clear hH hx ht hb hL
  go_enter Try.func24, Try.ntmps24
  go_wp2_with fail
  refine HT.out.mono ?_
  rintro e' w1 ⟨x1, a1, f1, rfl, h1, ha1, hx1, hc1⟩
  obtain ⟨p1, p2⟩ := x16 hx1
  have far1 := far_next (L := L) (n := 0) (m := 16) (.inl ⟨rfl, rfl, Nat.zero_le _⟩) (by decide) (by rw [HLL.out]; exact ha1) (by rw [HLL.out]; rcases hc1 with ⟨x, _, z⟩ | h; exact .inl ⟨x, rfl, z⟩; exact .inr h)
  have ht := rtk W B w1 b t bs a1 f1 _ 1 h1 HBK.out ha1 (by decide)
  rw [show ((1 : Nat) : Int) = 1 from rfl, HLB.out] at ht
  have HT1 := Lib.hid ht
  have FAR1 := Lib.hid far1
  clear ht h1 ha1 hc1 HT far1 hx1
  go_wp2_with fail
  refine HT1.out.mono ?_
  rintro e' w2 ⟨x2, a2, f2, rfl, h2, ha2, hx2, hc2⟩
  have far2 := far_next (L := L) (m := 1) FAR1.out.1 (by decide) (by rw [HLL.out]; exact ha2) (by rw [HLL.out]; exact hc2)
  have ht := rtk W B w2 b t bs a2 f2 _ 16 h2 HBK.out ha2 (by decide)
  rw [show ((16 : Nat) : Int) = 16 from rfl, HLB.out] at ht
  have HT2 := Lib.hid ht
  have hf1 : f2 = false → f1 = false := by
    intro hf
    rcases hc2 with ⟨_, h, _⟩ | ⟨h, _⟩
    · exact h
    · rw [hf] at h; cases h
  have FAR2 := Lib.hid (And.intro far2 hf1)
  have HX2 := Lib.hid (flag_cases hx2)
  clear ht h2 ha2 hc2 HT1 far2 hf1 hx2
  go_wp2_with fail
  refine HT2.out.mono ?_
  rintro e' w3 ⟨x3, a3, f3, rfl, h3, ha3, hx3, hc3⟩
  obtain ⟨q1, q2⟩ := x16 hx3
  have far3 := far_next (L := L) (m := 16) FAR2.out.1.1 (by decide) (by rw [HLL.out]; exact ha3) (by rw [HLL.out]; exact hc3)
  have ht := rtk W B w3 b t bs a3 f3 _ 32 h3 HBK.out ha3 (by decide)
  rw [show ((32 : Nat) : Int) = 32 from rfl, HLB.out] at ht
  have HT3 := Lib.hid ht
  have hf2 : f3 = false → f2 = false := by
    intro hf
    rcases hc3 with ⟨_, h, _⟩ | ⟨h, _⟩
    · exact h
    · rw [hf] at h; cases h
  have FAR3 := Lib.hid (And.intro far3 hf2)
  clear ht h3 ha3 hc3 HT2 far3 hf2 hx3
  go_wp2_with fail
  refine HT3.out.mono ?_
  rintro e' w4 ⟨x4, a4, f4, rfl, h4, ha4, hx4, hc4⟩
  obtain ⟨r1, r2⟩ := x32 hx4
  have far4 := far_next (L := L) (m := 32) FAR3.out.1.1 (by decide) (by rw [HLL.out]; exact ha4) (by rw [HLL.out]; exact hc4)
  have hf3 : f4 = false → f3 = false := by
    intro hf
    rcases hc4 with ⟨_, h, _⟩ | ⟨h, _⟩
    · exact h
    · rw [hf] at h; cases h
  have hend := four_end (x1 := x1) (x2 := x2) (x3 := x3) (x4 := x4) far4.1 (fun h => by have := FAR1.out.2 (FAR2.out.2 (FAR3.out.2 (hf3 h))); rw [List.drop_zero] at this; exact this) (fun h => FAR2.out.1.2 (FAR3.out.2 (hf3 h))) (fun h => FAR3.out.1.2 (hf3 h)) (fun h => far4.2 h)
  have HEND := Lib.hid hend
  have H4 := Lib.hid h4
  clear h4 ha4 hc4 HT3 far4 hf3 hend hx4
  have hok : Calls Try.prog 43 #[.pointer (some ⟨b, 0, none⟩)] (w4.alloc (Obj.cells #[.int .u16 (x1 : Int), .bool ((x2 : Int) == 1), .int .u16 (x3 : Int), .int .u32 (x4 : Int)] 56)) fun e' w' => e' = .returned (.bool (!f4)) ∧
      ∃ v, Holds W B w' (.st b [v, .int .i64 (a4 : Int), .bool f4] t :: .rw v 5 1 bs.length (nums .u8 bs) :: .st w4.heap.size [.int .u16 (x1 : Int), .bool ((x2 : Int) == 1), .int .u16 (x3 : Int), .int .u32 (x4 : Int)] 56 :: .st w.heap.size [.int .u16 0, .bool false, .int .u16 0, .int .u32 0] 56 :: F) := by
    obtain ⟨v4, h4⟩ := H4.out
    have h5 := (h4.alloc [.int .u16 (x1 : Int), .bool ((x2 : Int) == 1), .int .u16 (x3 : Int), .int .u32 (x4 : Int)] 56).up2.up2
    refine (rok W B _ b t bs a4 f4 _ ⟨v4, h5⟩).mono ?_
    rintro e' w5 ⟨rfl, rfl⟩
    exact ⟨rfl, v4, h5⟩
  have HOK := Lib.hid hok
  clear hok H4
  go_wp2_with fail
  refine HOK.out.mono ?_
  clear HOK
  rintro e' w5 ⟨rfl, v5, h5⟩
  obtain ⟨any, hany⟩ : ∃ any : Bool, ((x2 : Int) == 1) = any := ⟨_, rfl⟩
  simp only [hany] at h5 ⊢
  have H5 := Lib.hid h5
  have HANY := Lib.hid hany
  have l0 := h5.up2.cell 0 rfl
  have l1 := h5.up2.cell 1 rfl
  have l2 := h5.up2.cell 2 rfl
  have l3 := h5.up2.cell 3 rfl
  clear h5 hany p1 p2 q1 q2 r1 r2
  cases f4 with
  | true =>
    have HEQ := Lib.hid ((HEND.out.resolve_right (fun h => absurd h.1 (by decide))).2)
    have s0 := H5.out.up3
    have c0 := s0.cell 0 rfl
    have f0 := s0.frozen 0
    have s1 := s0.set 0 (.int .u16 0)
    simp only [List.set] at s1
    have c1 := s1.cell 1 rfl
    have f1 := s1.frozen 1
    have s2 := s1.set 1 (.bool false)
    simp only [List.set] at s2
    have c2 := s2.cell 2 rfl
    have f2 := s2.frozen 2
    have s3 := s2.set 2 (.int .u16 0)
    simp only [List.set] at s3
    have c3 := s3.cell 3 rfl
    have f3 := s3.frozen 3
    have s4 := s3.set 3 (.int .u32 0)
    simp only [List.set] at s4
    have S4 := Lib.hid s4
    clear s0 s1 s2 s3 s4 H5
    go_wp2_with fail
    have hz := S4.out
    refine bodyPost_ret (Go.Proofs.YtlhlkjllihbokaaW.PrintWords.results_ct rfl _ _ _ _ _ _ _ rfl hz.head.2 Try.underlying56 rfl (by kernel_rfl)) rfl ?_
    exact ReadPost.mk HEQ.out hz.tail.tail.tail.tail
  | false =>
    have hfe : readH L = fourH x1 x2 x3 x4 := (HEND.out.resolve_left (fun h => absurd h.1 (by decide))).2
    have HFE := Lib.hid hfe
    clear hfe HEND
    cases any with
    | true =>
      have HEQ := Lib.hid (HFE.out.trans (fourH_yes HANY.out HX2.out (.inl rfl)))
      have s0 := H5.out.up3
      have c0 := s0.cell 0 rfl
      have f0 := s0.frozen 0
      have s1 := s0.set 0 (.int .u16 (x1 : Int))
      simp only [List.set] at s1
      have c1 := s1.cell 1 rfl
      have f1 := s1.frozen 1
      have s2 := s1.set 1 (.bool true)
      simp only [List.set] at s2
      have c2 := s2.cell 2 rfl
      have f2 := s2.frozen 2
      have s3 := s2.set 2 (.int .u16 (x3 : Int))
      simp only [List.set] at s3
      have c3 := s3.cell 3 rfl
      have f3 := s3.frozen 3
      have s4 := s3.set 3 (.int .u32 (x4 : Int))
      simp only [List.set] at s4
      have S4 := Lib.hid s4
      clear s0 s1 s2 s3 s4 H5
      go_wp2_with fail
      have hz := S4.out
      refine bodyPost_ret (Go.Proofs.YtlhlkjllihbokaaW.PrintWords.results_ct rfl _ _ _ _ _ _ _ rfl hz.head.2 Try.underlying56 rfl (by kernel_rfl)) rfl ?_
      exact ReadPost.mk HEQ.out hz.tail.tail.tail.tail
    | false =>
      by_cases hz3 : x3 = 0
      · by_cases hz4 : x4 = 0
        · have HEQ := Lib.hid (HFE.out.trans (fourH_yes HANY.out HX2.out (.inr ⟨hz3, hz4⟩)))
          have n3 := ne0f hz3
          have n4 := ne0f hz4
          clear hz3 hz4
          have s0 := H5.out.up3
          have c0 := s0.cell 0 rfl
          have f0 := s0.frozen 0
          have s1 := s0.set 0 (.int .u16 (x1 : Int))
          simp only [List.set] at s1
          have c1 := s1.cell 1 rfl
          have f1 := s1.frozen 1
          have s2 := s1.set 1 (.bool false)
          simp only [List.set] at s2
          have c2 := s2.cell 2 rfl
          have f2 := s2.frozen 2
          have s3 := s2.set 2 (.int .u16 (x3 : Int))
          simp only [List.set] at s3
          have c3 := s3.cell 3 rfl
          have f3 := s3.frozen 3
          have s4 := s3.set 3 (.int .u32 (x4 : Int))
          simp only [List.set] at s4
          have S4 := Lib.hid s4
          clear s0 s1 s2 s3 s4 H5
          go_wp2_with fail
          have hz := S4.out
          refine bodyPost_ret (Go.Proofs.YtlhlkjllihbokaaW.PrintWords.results_ct rfl _ _ _ _ _ _ _ rfl hz.head.2 Try.underlying56 rfl (by kernel_rfl)) rfl ?_
          exact ReadPost.mk HEQ.out hz.tail.tail.tail.tail
        · have HEQ := Lib.hid (HFE.out.trans (fourH_no (two_no HANY.out HX2.out) (fun h => hz4 h.2)))
          have n3 := ne0f hz3
          have n4 := ne0 hz4
          clear hz3 hz4
          have s0 := H5.out.up3
          have c0 := s0.cell 0 rfl
          have f0 := s0.frozen 0
          have s1 := s0.set 0 (.int .u16 0)
          simp only [List.set] at s1
          have c1 := s1.cell 1 rfl
          have f1 := s1.frozen 1
          have s2 := s1.set 1 (.bool false)
          simp only [List.set] at s2
          have c2 := s2.cell 2 rfl
          have f2 := s2.frozen 2
          have s3 := s2.set 2 (.int .u16 0)
          simp only [List.set] at s3
          have c3 := s3.cell 3 rfl
          have f3 := s3.frozen 3
          have s4 := s3.set 3 (.int .u32 0)
          simp only [List.set] at s4
          have S4 := Lib.hid s4
          clear s0 s1 s2 s3 s4 H5
          go_wp2_with fail
          have hz := S4.out
          refine bodyPost_ret (Go.Proofs.YtlhlkjllihbokaaW.PrintWords.results_ct rfl _ _ _ _ _ _ _ rfl hz.head.2 Try.underlying56 rfl (by kernel_rfl)) rfl ?_
          exact ReadPost.mk HEQ.out hz.tail.tail.tail.tail
      · have HEQ := Lib.hid (HFE.out.trans (fourH_no (two_no HANY.out HX2.out) (fun h => hz3 h.1)))
        have n3 := ne0 hz3
        clear hz3
        have s0 := H5.out.up3
        have c0 := s0.cell 0 rfl
        have f0 := s0.frozen 0
        have s1 := s0.set 0 (.int .u16 0)
        simp only [List.set] at s1
        have c1 := s1.cell 1 rfl
        have f1 := s1.frozen 1
        have s2 := s1.set 1 (.bool false)
        simp only [List.set] at s2
        have c2 := s2.cell 2 rfl
        have f2 := s2.frozen 2
        have s3 := s2.set 2 (.int .u16 0)
        simp only [List.set] at s3
        have c3 := s3.cell 3 rfl
        have f3 := s3.frozen 3
        have s4 := s3.set 3 (.int .u32 0)
        simp only [List.set] at s4
        have S4 := Lib.hid s4
        clear s0 s1 s2 s3 s4 H5
        go_wp2_with fail
        have hz := S4.out
        refine bodyPost_ret (Go.Proofs.YtlhlkjllihbokaaW.PrintWords.results_ct rfl _ _ _ _ _ _ _ rfl hz.head.2 Try.underlying56 rfl (by kernel_rfl)) rfl ?_
        exact ReadPost.mk HEQ.out hz.tail.tail.tail.tail

end Go.Proofs.Ytlhlkjllihbokaa.Chan
