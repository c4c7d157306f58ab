/- The reader of bits: Done. -/
import Derived.Test.YtioogmicdonbpaaTake
set_option linter.unusedVariables false
set_option linter.unusedSimpArgs false
namespace Go.Proofs.Ytioogmicdonbpaa.Wr
open Go.RowKit Go.Proofs.Ytioogmicdonbpaa.Mem Go.Proofs.Ytioogmicdonbpaa.Bits Go.Proofs.Ytioogmicdonbpaa.Num Go.Proofs.YtioogmicdonbpaaW.PrintWords

theorem holds_drawn {W w w' : World} {B : Nat} {H : List Ent} (h : Holds W B w H) (hd : Drawn0 w w') : Holds W B w' H := by
  obtain ⟨n, rfl⟩ := hd.out
  exact h.drewN n

set_option maxHeartbeats 1000000 in
set_option maxRecDepth 100000 in
theorem rdone (W : World) (B : Nat) (w : World) (b : Nat) (e : TypeId) (bs : List Int) (at_ : Nat) (fail : Bool) (F : List Ent) (hw : HasR W B w b e bs at_ fail F) (hb : bytesOk bs) (hat : at_ ≤ 8 * bs.length) :
    Calls Try.prog 28 #[.pointer (some ⟨b, 0, none⟩)] w fun e' w' => e' = .returned (.bool (!fail && (decide (8 * bs.length - at_ < 8) && decide (val ((bitsB bs).drop at_) = 0)))) ∧ Drawn0 w w' := by
  obtain ⟨v, hH⟩ := hw
  obtain ⟨A, cp, rfl⟩ := hH.up1.slice
  have HOK := Lib.hid (rok W B w b e bs at_ fail F ⟨_, hH⟩)
  have HQ := Lib.hid (fun (w1 : World) (h1 : HasR W B w1 b e bs at_ fail F) (m : Nat) => ((rleft W B (w1.drewN m) b e bs at_ fail F (by obtain ⟨v, h⟩ := h1; exact ⟨v, h.drewN m⟩) hb hat).mono
    (fun _ _ h => ⟨h.1, by obtain ⟨k, hk⟩ := h.2.out; exact ⟨m + k, by rw [hk, World.drewN_drewN]⟩⟩ : ∀ (e : Ending) (w'' : World), _ → (e = .returned (.int .i64 (8 * (bs.length : Int) - (at_ : Int))) ∧ ∃ n, w'' = w1.drewN n))))
  have HL0 := Lib.hid (rleft W B w b e bs at_ fail F ⟨_, hH⟩ hb hat)
  have hl := hb.1
  have HB := Lib.hid hb.2
  clear hb
  cases fail with
  | true =>
    go_enter Try.func28, Try.ntmps28
    go_wp2_with fail
    refine HOK.out.mono ?_
    rintro e' w1 ⟨rfl, rfl⟩
    go_wp2_with fail
    go_ret
    exact ⟨rfl, Drawn0.refl _⟩
  | false =>
    by_cases h8 : 8 * bs.length - at_ < 8
    · have t8 : decide (8 ≤ 8 * (bs.length : Int) - (at_ : Int)) = false := by simp; omega
      have H8 := Lib.hid h8
      by_cases h0 : at_ = 8 * bs.length
      · have t0 : ((8 * (bs.length : Int) - (at_ : Int)) == 0) = true := by simp; omega
        have H0 := Lib.hid h0
        clear h0 h8
        go_enter Try.func28, Try.ntmps28
        go_wp2_with fail
        refine HOK.out.mono ?_
        rintro e' w1 ⟨rfl, rfl⟩
        go_wp2_with fail
        refine HL0.out.mono ?_
        rintro e' w1 ⟨rfl, hd⟩
        have HC := Lib.hid (HQ.out w1 ⟨_, holds_drawn hH hd⟩)
        clear hH
        go_wp2_with fail
        go_quiet ((go_at_call 35; exact HC.out _))
        go_wp2_with fail
        go_ret
        refine ⟨ret_b ?_, hd.step _⟩
        symm
        have := H0.out
        have hnil : (bitsB bs).drop at_ = [] := List.drop_eq_nil_of_le (by rw [bitsB_length]; omega)
        rw [hnil]
        simp [val]
        omega
      · have t0 : ((8 * (bs.length : Int) - (at_ : Int)) == 0) = false := by simp; omega
        obtain ⟨c, hc⟩ : ∃ c, bs[bs.length - 1]? = some c := ⟨_, List.getElem?_eq_getElem (by omega)⟩
        have hcr := HB.out c (List.mem_of_getElem? hc)
        have HV := Lib.hid (val_rest bs at_ c hcr.1 hcr.2 (by omega) (by omega) hc)
        obtain ⟨g, cp', he, hcp, hBg, hgl⟩ := hH.up1.row (by omega)
        simp only [Value.slice.injEq] at he
        obtain ⟨rfl, _, rfl⟩ := he
        have q0 : (0 : Int) ≤ (bs.length : Int) - 1 := by omega
        have q1 : (bs.length : Int) - 1 < (bs.length : Int) := by omega
        have tq : ((bs.length : Int) - 1).toNat = bs.length - 1 := by omega
        have wq : IntKind.i64.wrap ((bs.length : Int) - 1) = (bs.length : Int) - 1 := by rw [wrap_i64]; unfold wrap64; omega
        clear h0 h8
        have HC0 := Lib.hid hc
        clear hc
        go_enter Try.func28, Try.ntmps28
        go_wp2_with fail
        refine HOK.out.mono ?_
        rintro e' w1 ⟨rfl, rfl⟩
        go_wp2_with fail
        refine HL0.out.mono ?_
        rintro e' w1 ⟨rfl, hd⟩
        have h1 := holds_drawn hH hd
        have HC := Lib.hid (HQ.out w1 ⟨_, h1⟩)
        have c0 := h1.cell 0 (v := .slice (some ⟨g, 0, none⟩) bs.length cp) rfl
        have c1 := h1.cell 1 (v := .int .i64 (at_ : Int)) rfl
        have cq : w1.cell? ⟨g, bs.length - 1, none⟩ = some (.int .u8 c) := by
          rw [h1.up1.rcell (bs.length - 1) (by omega)]
          simp [nums, HC0.out]
        clear hH h1
        go_wp2_with fail
        go_quiet ((go_at_call 35; exact HC.out _))
        go_wp2_with fail
        go_ret
        refine ⟨ret_b ?_, hd.step _⟩
        rw [HV.out, decide_eq_true H8.out]
        rfl
    · have t8 : decide (8 ≤ 8 * (bs.length : Int) - (at_ : Int)) = true := by simp; omega
      go_enter Try.func28, Try.ntmps28
      go_wp2_with fail
      refine HOK.out.mono ?_
      rintro e' w1 ⟨rfl, rfl⟩
      go_wp2_with fail
      refine HL0.out.mono ?_
      rintro e' w1 ⟨rfl, hd⟩
      go_wp2_with fail
      go_ret
      exact ⟨ret_b (by simp; omega), hd⟩

end Go.Proofs.Ytioogmicdonbpaa.Wr
