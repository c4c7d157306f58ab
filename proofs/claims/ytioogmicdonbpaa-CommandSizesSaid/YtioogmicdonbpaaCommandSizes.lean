/- The law CommandSizes: a row has 35 bits, 17 of each command, 40 more of each that fires. For all lists; no condition. Here: the walk. -/
import Derived.Test.YtioogmicdonbpaaCPut
import Derived.Test.YtioogmicdonbpaaAwake09
import Derived.Test.YtioogmicdonbpaaCmdOpen
set_option linter.unusedVariables false
set_option linter.unusedSimpArgs false
namespace Go.Proofs.Ytioogmicdonbpaa.Cmds
open Go.Sort Go.RowKit Go.Proofs.Ytioogmicdonbpaa.Mem Go.Proofs.Ytioogmicdonbpaa.Open Go.Proofs.Ytioogmicdonbpaa.Num Go.Proofs.Ytioogmicdonbpaa.Bits Go.Proofs.Ytioogmicdonbpaa.Wr

set_option maxHeartbeats 1000000 in
theorem commandSizes_core (w : World) (v : Value) (l : List Cmd) (hv : RdL w v 6 (l.map Cmd.cells)) (hwf : ∀ c, c ∈ l → c.wf) :
    Calls Try.prog 4 #[v] w fun e' w' => e' = .returned (.bool true) ∧ Below w.heap.size w w' := by
  obtain ⟨A, c, rfl, hc, hm, hr⟩ := cells_at hv
  have HR := Lib.hid hr
  have HWF := Lib.hid hwf
  have HV := Lib.hid hv
  clear hr hwf hv
  cases hrb : rowB l with
  | false =>
    have hrow : ∀ w', Below w.heap.size w w' → Calls Try.prog 13 #[.slice A l.length c] w' fun e w'' => e = .returned (.bool false) ∧ Below w'.heap.size w' w'' := fun w' hb => by
      have := row w' _ l (RdL.below HV.out hb) HWF.out
      rw [hrb] at this
      exact this
    have HROW := Lib.hid hrow
    clear hrow
    go_enter Try.func4, Try.ntmps4
    go_wp2_with fail
    refine (awake09 _).mono ?_
    rintro e' w1 ⟨rfl, h1⟩
    go_wp2_with fail
    refine (HROW.out _ h1).mono ?_
    rintro e' w2 ⟨rfl, h2⟩
    have h3 := h1.trans (h2.mono h1.size)
    clear h1 h2
    go_wp2_with fail
    refine (awake09 _).mono ?_
    rintro e' w3 ⟨rfl, h4⟩
    go_wp2_with fail
    go_ret
    exact ⟨rfl, h3.trans (h4.mono h3.size)⟩
  | true =>
    have hrow : ∀ w', Below w.heap.size w w' → Calls Try.prog 13 #[.slice A l.length c] w' fun e w'' => e = .returned (.bool true) ∧ Below w'.heap.size w' w'' := fun w' hb => by
      have := row w' _ l (RdL.below HV.out hb) HWF.out
      rw [hrb] at this
      exact this
    have HROW := Lib.hid hrow
    have hir := (rowB_true l).1 hrb
    have hll := hir.1
    have hle := rowBits_le l hir
    have hsum := rowBits_length l
    clear hrow hir
    go_enter Try.func4, Try.ntmps4
    go_wp2_with fail
    refine (awake09 _).mono ?_
    rintro e' w1 ⟨rfl, h1⟩
    go_wp2_with fail
    refine (HROW.out _ h1).mono ?_
    rintro e' w2 ⟨rfl, h2⟩
    have h3 := h1.trans (h2.mono h1.size)
    have hf := fresh (Holds.belowed (Holds.start w) h3) 33
    have HF := Lib.hid hf
    clear h1 h2 h3 hf
    go_wp2_with fail
    generalize w2.alloc (.cells #[.slice none 0 0, .int .i64 0] 33) = w3 at *
    generalize w2.heap.size = b1 at *
    go_loopw [4, 5] (fun s i wr => ∃ k : Nat, k ≤ l.length ∧ i = .int .i64 k ∧ s = .int .i64 ((35 + ((l.take k).map cmdLen).sum : Nat) : Int) ∧ wr = w3)
      (fun _ i _ => l.length - (intOf i).toNat)
    case atStart => exact ⟨0, Nat.zero_le _, rfl, rfl, rfl⟩
    case round =>
      obtain ⟨k, hk, rfl, rfl, rfl⟩ := hrel
      have hsk := sum_le (l.take k)
      rw [List.length_take] at hsk
      by_cases hkn : k < l.length
      · obtain ⟨b, off, rfl, hlt, c0, c1, c2, c3, c4, c5⟩ := HR.out k hkn
        obtain ⟨v1, hH⟩ := HF.out
        have e3 := (hH.below.cell (p := ⟨b, off + k * 6 + 3, none⟩) hlt).trans c3
        have HN := Lib.hid (take_sum l k hkn)
        have HCL : Hid (cmdLen (el l k) = if (el l k).fire = true then 57 else 17) := rfl
        generalize ((l.take k).map cmdLen).sum = S at *
        generalize cmdLen (el l k) = CL at *
        generalize (el l k).fire = fire at *
        have k0 : (0 : Int) ≤ (k : Int) := by omega
        have k1 : (k : Int) < (l.length : Int) := by omega
        clear c0 c1 c2 c3 c4 c5 hH
        cases fire with
        | false =>
          have hcl : CL = 17 := HCL.out
          go_wp2_with fail
          refine ⟨⟨k + 1, by omega, by go_num, ?_, trivial⟩, by simp [intOf]; omega⟩
          rw [HN.out, hcl]
          go_num
        | true =>
          have hcl : CL = 57 := HCL.out
          go_wp2_with fail
          refine ⟨⟨k + 1, by omega, by go_num, ?_, trivial⟩, by simp [intOf]; omega⟩
          rw [HN.out, hcl]
          go_num
      · obtain rfl : k = l.length := by omega
        rw [List.take_of_length_le (Nat.le_refl _)] at *
        have hcp := cput w _ b1 33 [] [] _ l HF.out HV.out HWF.out (by decide)
        rw [hrb, if_pos rfl] at hcp
        have HCP := Lib.hid hcp
        clear hcp
        go_wp2_with fail
        refine HCP.out.mono ?_
        rintro e' w4 ⟨rfl, h4⟩
        go_wp2_with fail
        refine (count w w.heap.size _ _ 33 _ [] h4).mono ?_
        rintro e' w5 ⟨rfl, rfl⟩
        obtain ⟨v4, h5⟩ := h4
        have hbel := h5.below
        rw [List.nil_append, hsum]
        clear h5
        go_wp2_with fail
        go_ret
        exact ⟨ret_b (by simp), hbel⟩

theorem commandSizes (w : World) {H : Type} {enc : TypeId × Value → H} {base base' : Nat} {sp : Nat → Bool} {held : Bool} {d : DataW H} {ps : List MemPlace} {r : Reach} (v : Value)
    (hok : Value.okWide Try.prog w r base' 22 v) (h : DataW.Trod enc Try.prog w base sp held 22 v d ps) :
    Calls Try.prog 4 #[v] w fun e' w' => e' = .returned (.bool true) ∧ Below w.heap.size w w' := by
  obtain ⟨l, hv, hwf⟩ := open_cmds hok h
  exact commandSizes_core w v l hv hwf

end Go.Proofs.Ytioogmicdonbpaa.Cmds
