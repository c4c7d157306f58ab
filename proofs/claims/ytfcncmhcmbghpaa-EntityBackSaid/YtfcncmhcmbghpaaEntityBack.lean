/- The law EntityBack: what is put on a base is taken on it; on itself it has six bits. For all entities; no condition. Here: the walk. -/
import Derived.Test.YtfcncmhcmbghpaaETake
import Derived.Test.YtfcncmhcmbghpaaDone
import Derived.Test.YtfcncmhcmbghpaaAwake10
import Derived.Test.YtfcncmhcmbghpaaEntOpen
set_option linter.unusedVariables false
set_option linter.unusedSimpArgs false
namespace Go.Proofs.Ytfcncmhcmbghpaa.Ents
open Go.Sort Go.RowKit Go.Proofs.Ytfcncmhcmbghpaa.Mem Go.Proofs.Ytfcncmhcmbghpaa.Open Go.Proofs.Ytfcncmhcmbghpaa.Num Go.Proofs.Ytfcncmhcmbghpaa.Step Go.Proofs.Ytfcncmhcmbghpaa.Wr Go.Proofs.Ytfcncmhcmbghpaa.Bits

theorem self_len (e : Enty) : (putB e e).length = 6 := by
  unfold putB
  rw [List.length_append, mask_len]
  have : ∀ k, ((List.range k).flatMap (diffB e e)).length = 0 := fun k => by
    induction k with
    | zero => rfl
    | succ k ih => rw [range_flat, List.length_append, ih]; simp [diffB]
  rw [this]
theorem putB_le (bs e : Enty) : (putB bs e).length ≤ 486 := by
  unfold putB
  rw [List.length_append, mask_len]
  have := diff_len bs e 6
  omega

set_option maxHeartbeats 2000000 in
theorem entityBack_core (w : World) (bs e : Enty) (hwb : bs.wf) (hwe : e.wf) :
    Calls Try.prog 7 #[.agg #[.int .i64 bs.id, .int .i64 bs.kind, .int .i64 bs.x, .int .i64 bs.y, .int .i64 bs.vx, .int .i64 bs.vy, .int .i64 bs.hp, .int .i64 bs.wt], .agg #[.int .i64 e.id, .int .i64 e.kind, .int .i64 e.x, .int .i64 e.y, .int .i64 e.vx, .int .i64 e.vy, .int .i64 e.hp, .int .i64 e.wt]] w fun e' w' => e' = .returned (.bool true) ∧ Below w.heap.size w w' := by
  have h1 := (Holds.start w).alloc [.int .i64 bs.id, .int .i64 bs.kind, .int .i64 bs.x, .int .i64 bs.y, .int .i64 bs.vx, .int .i64 bs.vy, .int .i64 bs.hp, .int .i64 bs.wt] 29
  have h2 := h1.alloc [.int .i64 e.id, .int .i64 e.kind, .int .i64 e.x, .int .i64 e.y, .int .i64 e.vx, .int .i64 e.vy, .int .i64 e.hp, .int .i64 e.wt] 29
  have hs1 : (w.alloc (.cells #[.int .i64 bs.id, .int .i64 bs.kind, .int .i64 bs.x, .int .i64 bs.y, .int .i64 bs.vx, .int .i64 bs.vy, .int .i64 bs.hp, .int .i64 bs.wt] 29)).heap.size = w.heap.size + 1 := by simp
  rw [hs1] at h2
  have HX := Lib.hid h2
  obtain ⟨fb, hfb⟩ : ∃ fb, decide (EFrm e) = fb := ⟨_, rfl⟩
  have hf : ∀ w', Calls Try.prog 14 #[.agg #[.int .i64 e.id, .int .i64 e.kind, .int .i64 e.x, .int .i64 e.y, .int .i64 e.vx, .int .i64 e.vy, .int .i64 e.hp, .int .i64 e.wt]] w' fun e' w'' => e' = .returned (.bool fb) ∧ Below w'.heap.size w' w'' := fun w' => by
    have := eformed w' e
    rw [hfb] at this
    exact this
  have HF := Lib.hid hf
  have HWB := Lib.hid hwb
  have HWE := Lib.hid hwe
  have HFB := Lib.hid hfb
  clear h1 h2 hs1 hf hwb hwe hfb
  go_enter Try.func7, Try.ntmps7
  go_wp2_with fail
  refine (awake10 _).mono ?_
  rintro e' w1 ⟨rfl, h1⟩
  have h2 := Holds.belowed HX.out h1
  have e0 := h2.cell 0 rfl
  have e1 := h2.cell 1 rfl
  have e2 := h2.cell 2 rfl
  have e3 := h2.cell 3 rfl
  have e4 := h2.cell 4 rfl
  have e5 := h2.cell 5 rfl
  have e6 := h2.cell 6 rfl
  have e7 := h2.cell 7 rfl
  have H2 := Lib.hid h2
  clear h1 h2
  go_wp2_with fail
  refine (HF.out _).mono ?_
  rintro e' w2 ⟨rfl, h3⟩
  have h4 := Holds.belowed H2.out h3
  clear h3 e0 e1 e2 e3 e4 e5 e6 e7
  cases fb with
  | false =>
    have H4 := Lib.hid h4
    clear h4
    go_wp2_with fail
    refine (awake10 _).mono ?_
    rintro e' w3 ⟨rfl, h5⟩
    go_wp2_with fail
    go_ret
    exact ⟨rfl, (Holds.belowed H4.out h5).below⟩
  | true =>
    have hfe : EFrm e := by have := HFB.out; simpa using this
    have HFE := Lib.hid hfe
    have d0 := h4.cell 0 rfl
    have d1 := h4.cell 1 rfl
    have s0 := h4.up1
    have c0 := s0.cell 0 rfl
    have f0 := s0.frozen 0
    have s1 := s0.set 0 (.int .i64 e.id)
    have c1 := s1.cell 1 rfl
    have f1 := s1.frozen 1
    have d1' := s1.up1.cell 1 rfl
    have s2 := s1.set 1 (.int .i64 e.kind)
    simp only [List.set] at s2
    have S2 := Lib.hid s2
    clear s0 s1 s2 h4 hfe
    go_upto_region 5 with (fail)
    have s2 := S2.out
    clear d0 d1 d1' c0 c1 f0 f1 S2
    generalize (w2.setCell ⟨w.heap.size, 0, none⟩ (.int .i64 e.id)).setCell ⟨w.heap.size, 1, none⟩ (.int .i64 e.kind) = w3 at *
    obtain ⟨v1, h5⟩ := fresh s2 37
    obtain ⟨v2, h6⟩ := fresh h5 37
    have hs3 : (w3.alloc (.cells #[.slice none 0 0, .int .i64 0] 37)).heap.size = w3.heap.size + 1 := by simp
    rw [hs3] at h6
    have H6 := Lib.hid h6
    have bb0 : ∀ n u, ([.int .i64 e.id, .int .i64 e.kind, .int .i64 bs.x, .int .i64 bs.y, .int .i64 bs.vx, .int .i64 bs.vy, .int .i64 bs.hp, .int .i64 bs.wt] : List Value)[n]? = some u → ((w3.alloc (.cells #[.slice none 0 0, .int .i64 0] 37)).alloc (.cells #[.slice none 0 0, .int .i64 0] 37)).cell? ⟨w.heap.size, n, none⟩ = some u := fun n u hu => h6.up4.cell n hu
    have b0' := bb0 0 _ rfl
    have e0 := h6.up5.cell 0 rfl
    have b1' := bb0 1 _ rfl
    have e1 := h6.up5.cell 1 rfl
    have b2' := bb0 2 _ rfl
    have e2 := h6.up5.cell 2 rfl
    have b3' := bb0 3 _ rfl
    have e3 := h6.up5.cell 3 rfl
    have b4' := bb0 4 _ rfl
    have e4 := h6.up5.cell 4 rfl
    have b5' := bb0 5 _ rfl
    have e5 := h6.up5.cell 5 rfl
    have b6' := bb0 6 _ rfl
    have e6 := h6.up5.cell 6 rfl
    have b7' := bb0 7 _ rfl
    have e7 := h6.up5.cell 7 rfl
    have hp := eput w _ w3.heap.size 37 [] _ ⟨e.id, e.kind, bs.x, bs.y, bs.vx, bs.vy, bs.hp, bs.wt⟩ e ⟨v1, h6.up3.up3⟩ (by decide)
    have hok : okB ⟨e.id, e.kind, bs.x, bs.y, bs.vx, bs.vy, bs.hp, bs.wt⟩ e = true := decide_eq_true ⟨HFE.out, rfl, rfl⟩
    rw [hok, if_pos rfl, List.nil_append] at hp
    obtain ⟨bb, hbb⟩ : ∃ bb : Enty, bb = ⟨e.id, e.kind, bs.x, bs.y, bs.vx, bs.vy, bs.hp, bs.wt⟩ := ⟨_, rfl⟩
    rw [← hbb] at hp
    have hbw : bb.wf := by
      rw [hbb]
      have h1 := HWB.out
      have h2 := HWE.out
      exact ⟨h2.1, h2.2.1, h1.2.2⟩
    have hbi : bb.id = e.id := by rw [hbb]
    have hbk : bb.kind = e.kind := by rw [hbb]
    have HBW := Lib.hid hbw
    have HBI := Lib.hid hbi
    have HBK2 := Lib.hid hbk
    have hpq : Calls Try.prog 20 #[.pointer (some ⟨w3.heap.size, 0, none⟩), .agg #[.int .i64 e.id, .int .i64 e.kind, .int .i64 bs.x, .int .i64 bs.y, .int .i64 bs.vx, .int .i64 bs.vy, .int .i64 bs.hp, .int .i64 bs.wt], .agg #[.int .i64 e.id, .int .i64 e.kind, .int .i64 e.x, .int .i64 e.y, .int .i64 e.vx, .int .i64 e.vy, .int .i64 e.hp, .int .i64 e.wt]] ((w3.alloc (.cells #[.slice none 0 0, .int .i64 0] 37)).alloc (.cells #[.slice none 0 0, .int .i64 0] 37)) fun e' w' => e' = .returned (.bool true) ∧ HasW w w.heap.size w' w3.heap.size 37 (putB bb e) (.st (w3.heap.size + 1) [v2, .int .i64 0] 37 :: .rw v2 5 1 0 [] :: .st w.heap.size [.int .i64 e.id, .int .i64 e.kind, .int .i64 bs.x, .int .i64 bs.y, .int .i64 bs.vx, .int .i64 bs.vy, .int .i64 bs.hp, .int .i64 bs.wt] 29 :: .st (w.heap.size + 1) [.int .i64 e.id, .int .i64 e.kind, .int .i64 e.x, .int .i64 e.y, .int .i64 e.vx, .int .i64 e.vy, .int .i64 e.hp, .int .i64 e.wt] 29 :: []) := by
      subst hbb; exact hp
    have HP := Lib.hid hpq
    have HBB := Lib.hid hbb
    clear hp hpq s2 h5 h6 hs3 hok bb0 hbw hbi hbk hbb
    go_wp2_with fail
    refine HP.out.mono ?_
    rintro e' w4 ⟨rfl, v4, h7⟩
    clear b0' e0 b1' e1 b2' e2 b3' e3 b4' e4 b5' e5 b6' e6 b7' e7
    have e0 := h7.up5.cell 0 rfl
    have e1 := h7.up5.cell 1 rfl
    have e2 := h7.up5.cell 2 rfl
    have e3 := h7.up5.cell 3 rfl
    have e4 := h7.up5.cell 4 rfl
    have e5 := h7.up5.cell 5 rfl
    have e6 := h7.up5.cell 6 rfl
    have e7 := h7.up5.cell 7 rfl
    have hp2 := eput w w4 (w3.heap.size + 1) 37 [] _ e e ⟨v2, h7.up3.up3⟩ (by decide)
    have hok2 : okB e e = true := decide_eq_true ⟨HFE.out, rfl, rfl⟩
    rw [hok2, if_pos rfl, List.nil_append] at hp2
    have HP2 := Lib.hid hp2
    clear h7 hp2 hok2 H6 HP
    go_wp2_with fail
    refine HP2.out.mono ?_
    rintro e' w5 ⟨rfl, h8⟩
    have hc := count w w.heap.size w5 (w3.heap.size + 1) 37 _ _ h8
    rw [self_len] at hc
    have HC := Lib.hid hc
    have H8 := Lib.hid h8
    clear h8 hc HP2 e0 e1 e2 e3 e4 e5 e6 e7
    go_wp2_with fail
    refine HC.out.mono ?_
    rintro e' w6 ⟨rfl, rfl⟩
    obtain ⟨v6, h9⟩ := H8.out
    have hle := putB_le bb e
    have hb := Wr.bytes w w.heap.size w5 w3.heap.size 37 (putB bb e) _ ⟨v4, h9.up3.up3⟩ (by omega)
    have HB := Lib.hid hb
    clear h9 hb H8 HC
    go_wp2_with fail
    refine HB.out.mono ?_
    rintro e' w7 ⟨v7, rfl, v8, h10⟩
    have hbk : bytesOk (pack (putB bb e)) := ⟨by rw [pack_length]; unfold nby; omega, pack_byte _⟩
    have hpl := pack_length (putB bb e)
    have r3 := h10.up2.rd
    rw [← hpl] at r3
    have hn := rnew w w.heap.size _ _ _ (pack (putB bb e)) h10 r3 hbk
    have HN := Lib.hid hn
    have HBK := Lib.hid hbk
    have HPL := Lib.hid hpl
    clear h10 r3 hn hbk hpl HB
    go_wp2_with fail
    refine HN.out.mono ?_
    rintro e' w8 ⟨rb, rfl, v9, h12⟩
    have b0' := h12.up7.cell 0 rfl
    have b1' := h12.up7.cell 1 rfl
    have b2' := h12.up7.cell 2 rfl
    have b3' := h12.up7.cell 3 rfl
    have b4' := h12.up7.cell 4 rfl
    have b5' := h12.up7.cell 5 rfl
    have b6' := h12.up7.cell 6 rfl
    have b7' := h12.up7.cell 7 rfl
    have hpad := bitsB_pack (putB bb e)
    have hd0 : (bitsB (pack (putB bb e))).drop 0 = putB bb e ++ List.replicate (8 * nby (putB bb e) - (putB bb e).length) false := by rw [List.drop_zero, hpad]
    have hnb : 8 * nby (putB bb e) < (putB bb e).length + 8 ∧ (putB bb e).length ≤ 8 * nby (putB bb e) := by unfold nby; omega
    have HPAD := Lib.hid hpad
    have HNB := Lib.hid hnb
    have hc := etake w w8 rb 74 (pack (putB bb e)) 0 _ bb e _ ⟨v9, h12⟩ HBK.out (Nat.zero_le _) HFE.out HWE.out HBW.out HBI.out HBK2.out hd0
    have hargs : (#[.pointer (some ⟨rb, 0, none⟩), .agg #[.int .i64 bb.id, .int .i64 bb.kind, .int .i64 bb.x, .int .i64 bb.y, .int .i64 bb.vx, .int .i64 bb.vy, .int .i64 bb.hp, .int .i64 bb.wt]] : Array Value) = #[.pointer (some ⟨rb, 0, none⟩), .agg #[.int .i64 e.id, .int .i64 e.kind, .int .i64 bs.x, .int .i64 bs.y, .int .i64 bs.vx, .int .i64 bs.vy, .int .i64 bs.hp, .int .i64 bs.wt]] := by
      have := HBB.out
      subst this
      rfl
    rw [hargs] at hc
    have HC := Lib.hid hc
    clear h12 hpad hd0 hnb hc hargs HN
    go_wp2_with fail
    refine HC.out.mono ?_
    rintro e' w9 ⟨rfl, v13, h14⟩
    have h15 := h14.alloc [.int .i64 e.id, .int .i64 e.kind, .int .i64 e.x, .int .i64 e.y, .int .i64 e.vx, .int .i64 e.vy, .int .i64 e.hp, .int .i64 e.wt] 29
    have q0 := h15.cell 0 rfl
    have e0 := h15.tail.tail.up7.cell 0 rfl
    have q1 := h15.cell 1 rfl
    have e1 := h15.tail.tail.up7.cell 1 rfl
    have q2 := h15.cell 2 rfl
    have e2 := h15.tail.tail.up7.cell 2 rfl
    have q3 := h15.cell 3 rfl
    have e3 := h15.tail.tail.up7.cell 3 rfl
    have q4 := h15.cell 4 rfl
    have e4 := h15.tail.tail.up7.cell 4 rfl
    have q5 := h15.cell 5 rfl
    have e5 := h15.tail.tail.up7.cell 5 rfl
    have q6 := h15.cell 6 rfl
    have e6 := h15.tail.tail.up7.cell 6 rfl
    have q7 := h15.cell 7 rfl
    have e7 := h15.tail.tail.up7.cell 7 rfl
    have hbl : 8 * (pack (putB bb e)).length = 8 * nby (putB bb e) := by rw [HPL.out]
    have hdn := rdone w w.heap.size _ rb 74 (pack (putB bb e)) (0 + (putB bb e).length) false _ ⟨v13, h15.up2.up2⟩ HBK.out (by have := HNB.out; omega)
    have hpd : (bitsB (pack (putB bb e))).drop (0 + (putB bb e).length) = List.replicate (8 * nby (putB bb e) - (putB bb e).length) false := by
      rw [HPAD.out, Nat.zero_add, List.drop_left]
    rw [hpd, val_replicate] at hdn
    have hlt8 : 8 * (pack (putB bb e)).length - (0 + (putB bb e).length) < 8 := by have := HNB.out; omega
    rw [decide_eq_true hlt8] at hdn
    have HDN := Lib.hid hdn
    have HBEL := Lib.hid (And.intro h15.below h15.size)
    clear h14 h15 hbl hdn hpd hlt8 HC b0' b1' b2' b3' b4' b5' b6' b7'
    go_wp2_with fail
    refine HDN.out.mono ?_
    rintro e' w11 ⟨rfl, hdr⟩
    go_wp2_with fail
    go_ret
    exact ⟨rfl, Go.Proofs.YtfcncmhcmbghpaaW.PrintWords.below_then HBEL.out.1 HBEL.out.2 hdr.below⟩

theorem entityBack (w : World) {H : Type} {enc : TypeId × Value → H} {base base' base2 base2' : Nat} {sp sp2 : Nat → Bool} {held held2 : Bool} {d d2 : DataW H} {ps ps2 : List MemPlace} {r r2 : Reach} (v0 : Value)
    (hok0 : Value.okWide Try.prog w r base' 29 v0) (h0 : DataW.Trod enc Try.prog w base sp held 29 v0 d ps) (v : Value)
    (hok : Value.okWide Try.prog w r2 base2' 29 v) (h : DataW.Trod enc Try.prog w base2 sp2 held2 29 v d2 ps2) :
    Calls Try.prog 7 #[v0, v] w fun e' w' => e' = .returned (.bool true) ∧ Below w.heap.size w w' := by
  obtain ⟨bs, rfl, hwb⟩ := open_ent hok0 h0
  obtain ⟨e, rfl, hwe⟩ := open_ent hok h
  exact entityBack_core w bs e hwb hwe

end Go.Proofs.Ytfcncmhcmbghpaa.Ents
