/- The law BitsShort: a small number has as few bits as can be: of one that is less, with its sign, never more. For all pairs of 64-bit numbers; no condition. Here: the walk. -/
import Derived.Test.YtioogmicdonbpaaSmall
import Derived.Test.YtioogmicdonbpaaAwake06
set_option linter.unusedVariables false
set_option linter.unusedSimpArgs false
namespace Go.Proofs.Ytioogmicdonbpaa.Wr
open Go.RowKit Go.Proofs.Ytioogmicdonbpaa.Mem Go.Proofs.Ytioogmicdonbpaa.Bits Go.Proofs.Ytioogmicdonbpaa.Num Go.Proofs.YtioogmicdonbpaaW.PrintWords

set_option maxHeartbeats 1000000 in
theorem bitsShort (w : World) (a : Int) (wa : (Lit.int .i64 a).wf = true) (b : Int) (wb : (Lit.int .i64 b).wf = true) :
    Calls Try.prog 8 #[.int .i64 a, .int .i64 b] w fun e' w' => e' = .returned (.bool true) ∧ Below w.heap.size w w' := by
  have ha := bounds_i64 wa
  have hb := bounds_i64 wb
  have hza := zig_range a ha.1 ha.2
  have hzb := zig_range b hb.1 hb.2
  have h0 := fresh (Holds.start w) 33
  obtain ⟨v0, h0⟩ := h0
  obtain ⟨v1, h1⟩ := fresh h0 33
  have hs : (w.alloc (.cells #[.slice none 0 0, .int .i64 0] 33)).heap.size = w.heap.size + 1 := by simp
  rw [hs] at h1
  have HF : Hid (HasW w w.heap.size _ w.heap.size 33 [] _) := ⟨v0, h1.up2.up3.up1⟩
  clear h0 h1 hs
  have hA8 := smallB_len (zig a).toNat
  have hA80 := smallB_80 (zig a).toNat (by omega)
  have hmono : (0 ≤ a ∧ a ≤ b ∨ a < 0 ∧ b ≤ a) → (smallB (zig a).toNat).length ≤ (smallB (zig b).toNat).length := fun h => smallB_mono _ _ (by unfold zig; split <;> split <;> omega)
  generalize hLa : smallB (zig a).toNat = La at *
  generalize hLb : smallB (zig b).toNat = Lb at *
  have HLa := Lib.hid hLa
  have HLb := Lib.hid hLb
  have Hm := Lib.hid hmono
  clear hLa hLb hmono
  go_enter Try.func8, Try.ntmps8
  go_wp2_with fail
  refine (small w w.heap.size _ _ 33 _ _ a HF.out ha.1 ha.2 (by decide)).mono ?_
  rintro e' w1 ⟨rfl, h1⟩
  rw [HLa.out, List.nil_append] at h1
  obtain ⟨v2, h1⟩ := h1
  have H2 : Hid (HasW w w.heap.size w1 (w.heap.size + 1) 33 [] _) := ⟨v1, h1.up2.up3.up1⟩
  clear h1 HF
  go_wp2_with fail
  refine (small w w.heap.size _ _ 33 _ _ b H2.out hb.1 hb.2 (by decide)).mono ?_
  rintro e' w2 ⟨rfl, h1⟩
  rw [HLb.out, List.nil_append] at h1
  obtain ⟨v3, h1⟩ := h1
  have H3 := Lib.hid h1
  clear h1 H2
  go_wp2_with fail
  refine (awake06 _ _ _ _ H3.out).mono ?_
  rintro e' w3 ⟨rfl, h1⟩
  have HB : Hid (HasW w w.heap.size w3 (w.heap.size + 1) 33 Lb _) := ⟨v3, h1⟩
  have HA : Hid (HasW w w.heap.size w3 w.heap.size 33 La _) := ⟨v2, h1.up2.up3.up1⟩
  have hbel := h1.below
  clear h1 H3
  have t1 : (((La.length : Int) % 8) != 0) = false := by simp; omega
  have t2 : ¬ (La.length : Int) < 8 := by omega
  have t3 : ¬ 80 < (La.length : Int) := by omega
  go_wp2_with (first | (go_at_call 15; first | ((with_reducible refine (count _ _ _ _ _ _ _ HA.out).mono ?_); rintro e' w2 ⟨rfl, rfl⟩) | ((with_reducible refine (count _ _ _ _ _ _ _ HB.out).mono ?_); rintro e' w2 ⟨rfl, rfl⟩)))
  all_goals
    go_ret
    first
      | exact ⟨rfl, hbel⟩
      | exact ⟨ret_b (decide_eq_true (Hm.out (by omega))), hbel⟩

end Go.Proofs.Ytioogmicdonbpaa.Wr
