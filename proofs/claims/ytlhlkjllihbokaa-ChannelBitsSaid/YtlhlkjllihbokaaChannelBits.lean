/- The law ChannelBits: a header put is read again; of all bytes the header is read, or that none comes. For all headers and bytes; no condition. Here: the walk. -/
import Derived.Test.YtlhlkjllihbokaaChRR
import Derived.Test.YtlhlkjllihbokaaReadS
import Derived.Test.YtlhlkjllihbokaaOpenB
set_option linter.unusedVariables false
set_option linter.unusedSimpArgs false
namespace Go.Proofs.Ytlhlkjllihbokaa.Chan
open Go.Sort Go.RowKit Go.Deep Go.WideShapes Go.ChangeShapes Go.Proofs.Ytlhlkjllihbokaa.Mem Go.Proofs.Ytlhlkjllihbokaa.Open Go.Proofs.Ytlhlkjllihbokaa.OpenB Go.Proofs.Ytlhlkjllihbokaa.Num Go.Proofs.Ytlhlkjllihbokaa.Step Go.Proofs.Ytlhlkjllihbokaa.Ser Go.Proofs.Ytlhlkjllihbokaa.Wr Go.Proofs.Ytlhlkjllihbokaa.Bits Go.Proofs.Ytlhlkjllihbokaa.RRd Go.Proofs.YtlhlkjllihbokaaW.PrintWords

theorem hdr_flat : flat Try.prog 3 56 = some [.int .u16, .bool, .int .u16, .int .u32] := by kernel_rfl

set_option maxRecDepth 100000 in
theorem open_hdr {H : Type} {enc : TypeId × Value → H} {W : World} {base base' : Nat} {sp : Nat → Bool} {held : Bool} {v : Value} {d : DataW H} {ps : List MemPlace} {r : Reach}
    (hok : Value.okWide Try.prog W r base' 56 v) (h : DataW.Trod enc Try.prog W base sp held 56 v d ps) :
    ∃ (n : Int) (any : Bool) (a m : Int), v = .agg #[.int .u16 n, .bool any, .int .u16 a, .int .u32 m] ∧ HdrOk n a m := by
  obtain ⟨cs, rfl, hs⟩ := okWide_struct Try.underlying56 hok
  obtain ⟨fuel, hf⟩ := h
  have h0 := flat_ok 3 _ _ _ _ _ hdr_flat hf
  obtain ⟨n1, c1, hc1, w1, h1⟩ := h0.int_inv
  obtain ⟨b2, c2, rfl, h2⟩ := h1.bool_inv
  obtain ⟨n3, c3, rfl, w3, h3⟩ := h2.int_inv
  obtain ⟨n4, c4, rfl, w4, h4⟩ := h3.int_inv
  obtain rfl := h4.nil_inv
  refine ⟨n1, b2, n3, n4, ?_, ?_⟩
  · have : cs.toList = [.int .u16 n1, .bool b2, .int .u16 n3, .int .u32 n4] := by simpa [Value.cells] using hc1
    rw [← Array.toArray_toList (xs := cs), this]
  · simp [Lit.wf, IntKind.min, IntKind.max, IntKind.signed, IntKind.bits] at w1 w3 w4
    unfold HdrOk
    omega

/-- What is read of a header just put: the same, or nothing. -/
theorem first_read {n a m n1 a1 m1 : Int} {any any1 ok1 : Bool} (h : HdrOk n a m) (hr : readH (bitsB (pack (hdrB n any a m))) = (n1, any1, a1, m1, ok1)) :
    (any = true ∧ n1 = n ∧ any1 = true ∧ a1 = a ∧ m1 = m ∧ ok1 = true) ∨ (any = false ∧ a ≠ 0 ∧ ok1 = false) ∨ (any = false ∧ a = 0 ∧ m ≠ 0 ∧ ok1 = false) ∨ (any = false ∧ a = 0 ∧ m = 0 ∧ n1 = n ∧ any1 = false ∧ a1 = 0 ∧ m1 = 0 ∧ ok1 = true) := by
  rw [bitsB_pack, readH_put n a m any _ h] at hr
  cases any with
  | true =>
    rw [if_pos (.inl rfl)] at hr
    simp only [Prod.mk.injEq] at hr
    obtain ⟨rfl, rfl, rfl, rfl, rfl⟩ := hr
    exact .inl ⟨rfl, rfl, rfl, rfl, rfl, rfl⟩
  | false =>
    by_cases ha : a = 0
    · by_cases hm : m = 0
      · rw [if_pos (.inr ⟨ha, hm⟩)] at hr
        simp only [Prod.mk.injEq] at hr
        obtain ⟨h1, h2, h3, h4, h5⟩ := hr
        exact .inr (.inr (.inr ⟨rfl, ha, hm, h1.symm, h2.symm, h3.symm.trans ha, h4.symm.trans hm, h5.symm⟩))
      · rw [if_neg (by rintro (h | h); exact absurd h (by decide); exact hm h.2)] at hr
        simp only [Prod.mk.injEq] at hr
        exact .inr (.inr (.inl ⟨rfl, ha, hm, hr.2.2.2.2.symm⟩))
    · rw [if_neg (by rintro (h | h); exact absurd h (by decide); exact ha h.1)] at hr
      simp only [Prod.mk.injEq] at hr
      exact .inr (.inl ⟨rfl, ha, hr.2.2.2.2.symm⟩)

theorem ne_beq {a : Int} (h : a ≠ 0) : (a == 0) = false ∧ ¬ a = 0 := ⟨beq_eq_false_iff_ne.2 h, h⟩
theorem two_reads {l : List Bool} {n1 a1 m1 n2 a2 m2 : Int} {any1 ok1 any2 ok2 : Bool} (h1 : readH l = (n1, any1, a1, m1, ok1)) (h2 : readH l = (n2, any2, a2, m2, ok2)) : n2 = n1 ∧ any2 = any1 ∧ a2 = a1 ∧ m2 = m1 ∧ ok2 = ok1 := by
  rw [h1] at h2
  simp only [Prod.mk.injEq] at h2
  obtain ⟨rfl, rfl, rfl, rfl, rfl⟩ := h2
  exact ⟨rfl, rfl, rfl, rfl, rfl⟩

set_option maxRecDepth 100000 in
set_option maxHeartbeats 4000000 in
theorem channelBits_core (w : World) (n a m : Int) (any : Bool) (v : Value) (bs : List Int) (hok : HdrOk n a m) (hv : Rd w v bs.length (nums .u8 bs)) (hb : ∀ o, o ∈ bs → 0 ≤ o ∧ o < 256) :
    Calls Try.prog 9 #[.agg #[.int .u16 n, .bool any, .int .u16 a, .int .u32 m], v] w fun e' w' => e' = .returned (.bool true) ∧ Below w.heap.size w w' := by
  obtain ⟨A, c, rfl, hc, hm, hr⟩ := Rd.form hv (nums_length _ _)
  clear hc hm hr
  have h0 := (Holds.start w).alloc [.int .u16 n, .bool any, .int .u16 a, .int .u32 m] 56
  by_cases hbig : 500 < bs.length
  · have hbg : (500 : Int) < (bs.length : Int) := by omega
    have H0 := Lib.hid h0
    clear h0
    go_enter Try.func9, Try.ntmps9
    go_wp2_with fail
    refine (awake14 _).mono ?_
    rintro e' w1 ⟨rfl, h1⟩
    have H1 := Lib.hid (hbelowed H0.out h1)
    clear h1 H0
    go_wp2_with fail
    refine (awake14 _).mono ?_
    rintro e' w2 ⟨rfl, h2⟩
    have H2 := Lib.hid (hbelowed H1.out h2)
    clear h2 H1
    go_wp2_with fail
    go_ret
    exact ⟨rfl, H2.out.below⟩
  · have hbg : ¬ (500 : Int) < (bs.length : Int) := by omega
    have hbo : bytesOk bs := ⟨by omega, hb⟩
    have HBO := Lib.hid hbo
    have HOK := Lib.hid hok
    have HV := Lib.hid hv
    have H0 := Lib.hid h0
    clear h0 hv hok hbo hb hbig
    go_enter Try.func9, Try.ntmps9
    go_wp2_with fail
    refine (awake14 _).mono ?_
    rintro e' w1 ⟨rfl, h1⟩
    have h1 := hbelowed H0.out h1
    have d0 := h1.cell 0 rfl
    have d1 := h1.cell 1 rfl
    have d2 := h1.cell 2 rfl
    have d3 := h1.cell 3 rfl
    obtain ⟨v1, h2⟩ := fresh h1 59
    obtain ⟨v2, h3⟩ := rfresh h2 62
    have hs : (w1.alloc (.cells #[.slice none 0 0, .int .i64 0] 59)).heap.size = w1.heap.size + 1 := by simp
    rw [hs] at h3
    have h3 := h3.up2.up3.up1
    have f0 := h3.up4.cell 0 rfl
    have f1 := h3.up4.cell 1 rfl
    have f2 := h3.up4.cell 2 rfl
    have f3 := h3.up4.cell 3 rfl
    have hp := chput w w.heap.size _ _ 59 [] _ n a m any ⟨v1, h3⟩ (by decide) HOK.out
    rw [List.nil_append] at hp
    have HP := Lib.hid hp
    clear h1 h2 h3 hs H0 hp
    go_wp2_with fail
    refine HP.out.mono ?_
    rintro e' w2 ⟨rfl, v3, h4⟩
    have h4 := h4.up2.up3.up1
    have e0 := h4.up4.cell 0 rfl
    have e1 := h4.up4.cell 1 rfl
    have e2 := h4.up4.cell 2 rfl
    have e3 := h4.up4.cell 3 rfl
    have hp := rchput w w.heap.size _ _ _ [] _ n a m any ⟨v2, h4⟩ (by decide) HOK.out
    rw [List.nil_append] at hp
    have HP1 := Lib.hid hp
    clear h4 hp HP d0 d1 d2 d3 f0 f1 f2 f3
    go_wp2_with fail
    refine HP1.out.mono ?_
    rintro e' w3 ⟨rfl, v4, h5⟩
    have h5 := h5.up2.up3.up1
    have hl65 : (hdrB n any a m).length ≤ 1000000000 := by rw [hdrB_len]; decide
    have HL65 := Lib.hid hl65
    have hp := Wr.bytes w w.heap.size _ _ _ (hdrB n any a m) _ ⟨v3, h5⟩ hl65
    have HP2 := Lib.hid hp
    clear h5 hp hl65 HP1 e0 e1 e2 e3
    go_wp2_with fail
    refine HP2.out.mono ?_
    rintro e' w4 ⟨v5, rfl, v3', h6⟩
    have r5 := h6.up2.rd
    rw [← pack_length] at r5
    have hbk : bytesOk (pack (hdrB n any a m)) := ⟨by rw [pack_length]; unfold nby; rw [hdrB_len]; decide, pack_byte _⟩
    have HBK := Lib.hid hbk
    have hp := rnew w w.heap.size w4 _ v5 (pack (hdrB n any a m)) h6 r5 hbk
    have HP3 := Lib.hid hp
    clear h6 hp r5 hbk HP2
    go_wp2_with fail
    refine HP3.out.mono ?_
    rintro e' w5 ⟨rb, rfl, h7⟩
    have hp := chread w w.heap.size w5 rb _ _ _ h7 HBK.out
    have HP4 := Lib.hid hp
    clear h7 hp HP3
    go_wp2_with fail
    refine HP4.out.mono ?_
    rintro e' w6 ⟨n1, a1, m1, any1, ok1, hr1, rfl, h8⟩
    have h9 := ((h8.alloc [.int .u16 n1, .bool any1, .int .u16 a1, .int .u32 m1] 56)).up2.up2
    have hp := Wr.bytes w w.heap.size _ _ _ (hdrB n any a m) _ ⟨v3', h9⟩ HL65.out
    have HP5 := Lib.hid hp
    have HR1 := Lib.hid (first_read HOK.out hr1)
    clear h8 h9 hp hr1 HP4
    go_wp2_with fail
    refine HP5.out.mono ?_
    rintro e' w7 ⟨v6, rfl, v7, h10⟩
    have hp := rbytes w w.heap.size w7 _ _ (hdrB n any a m) _ ⟨v4, h10.up6.up6⟩ HL65.out
    have HP6 := Lib.hid hp
    clear h10 hp HP5
    go_wp2_with fail
    refine HP6.out.mono ?_
    rintro e' w8 ⟨v8, rfl, v9, h12⟩
    have r6 := h12.up5.rd
    have r8 := h12.up2.rd
    rw [← pack_length] at r6 r8
    have hp := same w8 v6 v8 (pack (hdrB n any a m)) (pack (hdrB n any a m)) r6 r8
    rw [decide_eq_true rfl] at hp
    have HP7 := Lib.hid hp
    have H12 := Lib.hid h12
    clear h12 r6 r8 hp HP6
    go_wp2_with fail
    refine HP7.out.mono ?_
    rintro e' w9 ⟨rfl, hd⟩
    have h13 := hbelowed H12.out hd.below
    have hp := Wr.count w w.heap.size w9 _ _ (hdrB n any a m) _ ⟨v7, h13.up3.up4.up1⟩
    rw [hdrB_len, show ((65 : Nat) : Int) = 65 from rfl] at hp
    have HP8 := Lib.hid hp
    have hz := h13.tail.tail
    have g0 := hz.up4.cell 0 rfl
    have g1 := hz.up4.cell 1 rfl
    have g2 := hz.up4.cell 2 rfl
    have g3 := hz.up4.cell 3 rfl
    have e0 := hz.up6.cell 0 rfl
    have e1 := hz.up6.cell 1 rfl
    have e2 := hz.up6.cell 2 rfl
    have e3 := hz.up6.cell 3 rfl
    have HZ := Lib.hid hz
    clear h13 hp hz hd H12 HP7
    go_wp2_with fail
    refine HP8.out.mono ?_
    rintro e' w10 ⟨rfl, rfl⟩
    have hp := rnew w w.heap.size w9 _ (.slice A bs.length c) bs HZ.out (HV.out.below HZ.out.below) HBO.out
    have HP9 := Lib.hid hp
    clear hp HP8
    rcases HR1.out with ⟨rfl, rfl, rfl, rfl, rfl, rfl⟩ | ⟨rfl, hne, rfl⟩ | ⟨rfl, rfl, hne, rfl⟩ | ⟨rfl, rfl, rfl, rfl, rfl, rfl, rfl, rfl⟩
    · clear HR1 HZ
      go_wp2_with fail
      refine HP9.out.mono ?_
      rintro e' w11 ⟨rb2, rfl, h14⟩
      have hp := chread w w.heap.size w11 rb2 _ bs _ h14 HBO.out
      have HPA := Lib.hid hp
      clear hp h14 HP9
      go_wp2_with fail
      refine HPA.out.mono ?_
      rintro e' w12 ⟨n2, a2, m2, any2, ok2, hr2, rfl, h15⟩
      have h16 := h15.alloc [.int .u16 n2, .bool any2, .int .u16 a2, .int .u32 m2] 56
      have hp := rrnew w _ _ (.slice A bs.length c) bs h16 HV.out HBO.out
      have HPB := Lib.hid hp
      have HR2 := Lib.hid hr2
      clear hp h15 h16 hr2 HPA g0 g1 g2 g3 e0 e1 e2 e3
      go_wp2_with fail
      refine HPB.out.mono ?_
      rintro e' w13 ⟨rb3, rfl, h17⟩
      have hp := rchread w w.heap.size w13 rb3 (bitsB bs) _ h17 (by have := HBO.out.1; rw [bitsB_length]; omega)
      have HPC := Lib.hid hp
      clear hp h17 HPB
      go_wp2_with fail
      refine HPC.out.mono ?_
      rintro e' w14 ⟨n3, a3, m3, any3, ok3, hr3, rfl, h18⟩
      obtain ⟨rfl, rfl, rfl, rfl, rfl⟩ := two_reads HR2.out hr3
      have h19 := h18.alloc [.int .u16 n3, .bool any3, .int .u16 a3, .int .u32 m3] 65
      have c0 := h19.up1.cell 0 rfl
      have c1 := h19.up1.cell 1 rfl
      have c2 := h19.up1.cell 2 rfl
      have c3 := h19.up1.cell 3 rfl
      have H19 := Lib.hid h19.below
      clear h18 h19 HPC HR2 hr3
      go_wp2_with fail
      go_ret
      exact ⟨rfl, H19.out⟩
    · obtain ⟨q1, q2⟩ := ne_beq hne
      clear hne
      clear HR1 HZ
      go_wp2_with fail
      refine HP9.out.mono ?_
      rintro e' w11 ⟨rb2, rfl, h14⟩
      have hp := chread w w.heap.size w11 rb2 _ bs _ h14 HBO.out
      have HPA := Lib.hid hp
      clear hp h14 HP9
      go_wp2_with fail
      refine HPA.out.mono ?_
      rintro e' w12 ⟨n2, a2, m2, any2, ok2, hr2, rfl, h15⟩
      have h16 := h15.alloc [.int .u16 n2, .bool any2, .int .u16 a2, .int .u32 m2] 56
      have hp := rrnew w _ _ (.slice A bs.length c) bs h16 HV.out HBO.out
      have HPB := Lib.hid hp
      have HR2 := Lib.hid hr2
      clear hp h15 h16 hr2 HPA g0 g1 g2 g3 e0 e1 e2 e3
      go_wp2_with fail
      refine HPB.out.mono ?_
      rintro e' w13 ⟨rb3, rfl, h17⟩
      have hp := rchread w w.heap.size w13 rb3 (bitsB bs) _ h17 (by have := HBO.out.1; rw [bitsB_length]; omega)
      have HPC := Lib.hid hp
      clear hp h17 HPB
      go_wp2_with fail
      refine HPC.out.mono ?_
      rintro e' w14 ⟨n3, a3, m3, any3, ok3, hr3, rfl, h18⟩
      obtain ⟨rfl, rfl, rfl, rfl, rfl⟩ := two_reads HR2.out hr3
      have h19 := h18.alloc [.int .u16 n3, .bool any3, .int .u16 a3, .int .u32 m3] 65
      have c0 := h19.up1.cell 0 rfl
      have c1 := h19.up1.cell 1 rfl
      have c2 := h19.up1.cell 2 rfl
      have c3 := h19.up1.cell 3 rfl
      have H19 := Lib.hid h19.below
      clear h18 h19 HPC HR2 hr3
      go_wp2_with fail
      go_ret
      exact ⟨rfl, H19.out⟩
    · obtain ⟨q1, q2⟩ := ne_beq hne
      clear hne
      clear HR1 HZ
      go_wp2_with fail
      refine HP9.out.mono ?_
      rintro e' w11 ⟨rb2, rfl, h14⟩
      have hp := chread w w.heap.size w11 rb2 _ bs _ h14 HBO.out
      have HPA := Lib.hid hp
      clear hp h14 HP9
      go_wp2_with fail
      refine HPA.out.mono ?_
      rintro e' w12 ⟨n2, a2, m2, any2, ok2, hr2, rfl, h15⟩
      have h16 := h15.alloc [.int .u16 n2, .bool any2, .int .u16 a2, .int .u32 m2] 56
      have hp := rrnew w _ _ (.slice A bs.length c) bs h16 HV.out HBO.out
      have HPB := Lib.hid hp
      have HR2 := Lib.hid hr2
      clear hp h15 h16 hr2 HPA g0 g1 g2 g3 e0 e1 e2 e3
      go_wp2_with fail
      refine HPB.out.mono ?_
      rintro e' w13 ⟨rb3, rfl, h17⟩
      have hp := rchread w w.heap.size w13 rb3 (bitsB bs) _ h17 (by have := HBO.out.1; rw [bitsB_length]; omega)
      have HPC := Lib.hid hp
      clear hp h17 HPB
      go_wp2_with fail
      refine HPC.out.mono ?_
      rintro e' w14 ⟨n3, a3, m3, any3, ok3, hr3, rfl, h18⟩
      obtain ⟨rfl, rfl, rfl, rfl, rfl⟩ := two_reads HR2.out hr3
      have h19 := h18.alloc [.int .u16 n3, .bool any3, .int .u16 a3, .int .u32 m3] 65
      have c0 := h19.up1.cell 0 rfl
      have c1 := h19.up1.cell 1 rfl
      have c2 := h19.up1.cell 2 rfl
      have c3 := h19.up1.cell 3 rfl
      have H19 := Lib.hid h19.below
      clear h18 h19 HPC HR2 hr3
      go_wp2_with fail
      go_ret
      exact ⟨rfl, H19.out⟩
    · clear HR1 HZ
      go_wp2_with fail
      refine HP9.out.mono ?_
      rintro e' w11 ⟨rb2, rfl, h14⟩
      have hp := chread w w.heap.size w11 rb2 _ bs _ h14 HBO.out
      have HPA := Lib.hid hp
      clear hp h14 HP9
      go_wp2_with fail
      refine HPA.out.mono ?_
      rintro e' w12 ⟨n2, a2, m2, any2, ok2, hr2, rfl, h15⟩
      have h16 := h15.alloc [.int .u16 n2, .bool any2, .int .u16 a2, .int .u32 m2] 56
      have hp := rrnew w _ _ (.slice A bs.length c) bs h16 HV.out HBO.out
      have HPB := Lib.hid hp
      have HR2 := Lib.hid hr2
      clear hp h15 h16 hr2 HPA g0 g1 g2 g3 e0 e1 e2 e3
      go_wp2_with fail
      refine HPB.out.mono ?_
      rintro e' w13 ⟨rb3, rfl, h17⟩
      have hp := rchread w w.heap.size w13 rb3 (bitsB bs) _ h17 (by have := HBO.out.1; rw [bitsB_length]; omega)
      have HPC := Lib.hid hp
      clear hp h17 HPB
      go_wp2_with fail
      refine HPC.out.mono ?_
      rintro e' w14 ⟨n3, a3, m3, any3, ok3, hr3, rfl, h18⟩
      obtain ⟨rfl, rfl, rfl, rfl, rfl⟩ := two_reads HR2.out hr3
      have h19 := h18.alloc [.int .u16 n3, .bool any3, .int .u16 a3, .int .u32 m3] 65
      have c0 := h19.up1.cell 0 rfl
      have c1 := h19.up1.cell 1 rfl
      have c2 := h19.up1.cell 2 rfl
      have c3 := h19.up1.cell 3 rfl
      have H19 := Lib.hid h19.below
      clear h18 h19 HPC HR2 hr3
      go_wp2_with fail
      go_ret
      exact ⟨rfl, H19.out⟩

set_option maxRecDepth 100000 in
theorem channelBits (w : World) {H : Type} {enc : TypeId × Value → H} {base base' base2 base2' : Nat} {sp sp2 : Nat → Bool} {held held2 : Bool} {d1 d2 : DataW H} {ps1 ps2 : List MemPlace} {r r2 : Reach} (v1 : Value)
    (hok1 : Value.okWide Try.prog w r base' 56 v1) (h1 : DataW.Trod enc Try.prog w base sp held 56 v1 d1 ps1) (v2 : Value)
    (hok2 : Value.okWide Try.prog w r2 base2' 36 v2) (h2 : DataW.Trod enc Try.prog w base2 sp2 held2 36 v2 d2 ps2) :
    Calls Try.prog 9 #[v1, v2] w fun e' w' => e' = .returned (.bool true) ∧ Below w.heap.size w w' := by
  obtain ⟨n, any, a, m, rfl, hok⟩ := open_hdr hok1 h1
  obtain ⟨l, hv, hb⟩ := open_bytes hok2 h2
  exact channelBits_core w n a m any v2 l hok hv hb

end Go.Proofs.Ytlhlkjllihbokaa.Chan
