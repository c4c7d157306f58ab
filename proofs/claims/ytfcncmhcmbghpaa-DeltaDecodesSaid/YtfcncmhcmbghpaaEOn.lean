/- What an entity stands on, by the program. -/
import Derived.Test.YtfcncmhcmbghpaaEFind
import Derived.Test.YtfcncmhcmbghpaaWWords
set_option linter.unusedVariables false
set_option linter.unusedSimpArgs false
namespace Go.Proofs.Ytfcncmhcmbghpaa.Ents
open Go.Sort Go.RowKit Go.Proofs.Ytfcncmhcmbghpaa.Mem Go.Proofs.Ytfcncmhcmbghpaa.Open Go.Proofs.Ytfcncmhcmbghpaa.Num Go.Proofs.Ytfcncmhcmbghpaa.Step

def none_ (id : Int) : Enty := ⟨id, if 8 < id then 2 else 1, 0, 0, 0, 0, 0, 0⟩
def onE (l : List Enty) (id : Int) : Enty := if find l id = -1 then none_ id else el l (find l id).toNat
theorem find_cases (l : List Enty) (id : Int) : find l id = -1 ∨ ∃ k : Nat, k < l.length ∧ find l id = (k : Int) := by
  unfold find
  have : ∀ (l : List Enty) (i : Nat), findAt id l (i : Int) = -1 ∨ ∃ k : Nat, k < l.length ∧ findAt id l (i : Int) = ((i + k : Nat) : Int) := by
    intro l
    induction l with
    | nil => intro i; left; rfl
    | cons e l ih =>
      intro i
      unfold findAt
      by_cases h : e.id = id
      · right; rw [if_pos h]; exact ⟨0, by simp, rfl⟩
      · rw [if_neg h]
        rcases ih (i + 1) with h1 | ⟨k, hk, h1⟩
        · left; exact_mod_cast h1
        · right
          refine ⟨k + 1, by simpa using hk, ?_⟩
          have h2 : findAt id l ((i : Int) + 1) = ((i + 1 + k : Nat) : Int) := by exact_mod_cast h1
          rw [h2]; congr 1; omega
  have h := this l 0
  simpa using h

set_option maxHeartbeats 1000000 in
theorem eon (w : World) (v : Value) (l : List Enty) (id : Int) (hv : RdL w v 8 (l.map Enty.cells)) :
    Calls Try.prog 53 #[v, .int .i64 id] w fun e' w' => e' = .returned (.agg #[.int .i64 (onE l id).id, .int .i64 (onE l id).kind, .int .i64 (onE l id).x, .int .i64 (onE l id).y, .int .i64 (onE l id).vx, .int .i64 (onE l id).vy, .int .i64 (onE l id).hp, .int .i64 (onE l id).wt]) ∧ Below w.heap.size w w' := by
  have HV := Lib.hid hv
  obtain ⟨A, c, rfl, hc, hm, hr⟩ := cells_at hv
  have HR := Lib.hid hr
  have h0 := (Holds.start w).alloc [.int .i64 0, .int .i64 0, .int .i64 0, .int .i64 0, .int .i64 0, .int .i64 0, .int .i64 0, .int .i64 0] 29
  have hfd := efind _ _ l id (RdL.below HV.out h0.below)
  have H0 := Lib.hid h0
  rcases find_cases l id with hf | ⟨k, hk, hf⟩
  · have hon : onE l id = none_ id := by unfold onE; rw [if_pos hf]
    rw [hf] at hfd
    have HFD := Lib.hid hfd
    rw [hon]
    clear hr hv hm h0 hfd hf hon
    unfold none_
    by_cases h8 : 8 < id
    · simp only [if_pos h8]
      have t8 : decide (8 < id) = true := by simpa using h8
      go_enter Try.func53, Try.ntmps53
      go_wp2_with fail
      refine HFD.out.mono ?_
      rintro e' w1 ⟨rfl, h1⟩
      have h2 := Holds.belowed H0.out h1
      have h3 := h2.alloc [.int .i64 id, .int .i64 2, .int .i64 0, .int .i64 0, .int .i64 0, .int .i64 0, .int .i64 0, .int .i64 0] 29
      have q0 := h3.cell 0 rfl
      have q1 := h3.cell 1 rfl
      have q2 := h3.cell 2 rfl
      have q3 := h3.cell 3 rfl
      have q4 := h3.cell 4 rfl
      have q5 := h3.cell 5 rfl
      have q6 := h3.cell 6 rfl
      have q7 := h3.cell 7 rfl
      have s0 := h3.up1
      have c0 := s0.cell 0 rfl
      have f0 := s0.frozen 0
      have s1 := s0.set 0 (.int .i64 id)
      have c1 := s1.cell 1 rfl
      have f1 := s1.frozen 1
      have s2 := s1.set 1 (.int .i64 2)
      have c2 := s2.cell 2 rfl
      have f2 := s2.frozen 2
      have s3 := s2.set 2 (.int .i64 0)
      have c3 := s3.cell 3 rfl
      have f3 := s3.frozen 3
      have s4 := s3.set 3 (.int .i64 0)
      have c4 := s4.cell 4 rfl
      have f4 := s4.frozen 4
      have s5 := s4.set 4 (.int .i64 0)
      have c5 := s5.cell 5 rfl
      have f5 := s5.frozen 5
      have s6 := s5.set 5 (.int .i64 0)
      have c6 := s6.cell 6 rfl
      have f6 := s6.frozen 6
      have s7 := s6.set 6 (.int .i64 0)
      have c7 := s7.cell 7 rfl
      have f7 := s7.frozen 7
      have s8 := s7.set 7 (.int .i64 0)
      simp only [List.set] at s8
      have S8 := Lib.hid s8
      clear s0 s1 s2 s3 s4 s5 s6 s7 s8
      clear h1 h2 h3
      go_wp2_with fail
      have hz := S8.out
      refine bodyPost_ret (results_cell_row rfl _ _ _ _ _ _ _ rfl hz.head.2 Try.underlying29 rfl (by kernel_rfl)) rfl ?_
      exact ⟨rfl, hz.below⟩
    · simp only [if_neg h8]
      have t8 : decide (8 < id) = false := by simpa using h8
      go_enter Try.func53, Try.ntmps53
      go_wp2_with fail
      refine HFD.out.mono ?_
      rintro e' w1 ⟨rfl, h1⟩
      have h2 := Holds.belowed H0.out h1
      have h3 := h2.alloc [.int .i64 id, .int .i64 1, .int .i64 0, .int .i64 0, .int .i64 0, .int .i64 0, .int .i64 0, .int .i64 0] 29
      have q0 := h3.cell 0 rfl
      have q1 := h3.cell 1 rfl
      have q2 := h3.cell 2 rfl
      have q3 := h3.cell 3 rfl
      have q4 := h3.cell 4 rfl
      have q5 := h3.cell 5 rfl
      have q6 := h3.cell 6 rfl
      have q7 := h3.cell 7 rfl
      have s0 := h3.up1
      have c0 := s0.cell 0 rfl
      have f0 := s0.frozen 0
      have s1 := s0.set 0 (.int .i64 id)
      have c1 := s1.cell 1 rfl
      have f1 := s1.frozen 1
      have s2 := s1.set 1 (.int .i64 1)
      have c2 := s2.cell 2 rfl
      have f2 := s2.frozen 2
      have s3 := s2.set 2 (.int .i64 0)
      have c3 := s3.cell 3 rfl
      have f3 := s3.frozen 3
      have s4 := s3.set 3 (.int .i64 0)
      have c4 := s4.cell 4 rfl
      have f4 := s4.frozen 4
      have s5 := s4.set 4 (.int .i64 0)
      have c5 := s5.cell 5 rfl
      have f5 := s5.frozen 5
      have s6 := s5.set 5 (.int .i64 0)
      have c6 := s6.cell 6 rfl
      have f6 := s6.frozen 6
      have s7 := s6.set 6 (.int .i64 0)
      have c7 := s7.cell 7 rfl
      have f7 := s7.frozen 7
      have s8 := s7.set 7 (.int .i64 0)
      simp only [List.set] at s8
      have S8 := Lib.hid s8
      clear s0 s1 s2 s3 s4 s5 s6 s7 s8
      clear h1 h2 h3
      go_wp2_with fail
      have hz := S8.out
      refine bodyPost_ret (results_cell_row rfl _ _ _ _ _ _ _ rfl hz.head.2 Try.underlying29 rfl (by kernel_rfl)) rfl ?_
      exact ⟨rfl, hz.below⟩
  · have hon : onE l id = el l k := by unfold onE; rw [hf, if_neg (by omega), Int.toNat_natCast]
    rw [hf] at hfd
    have HFD := Lib.hid hfd
    rw [hon]
    obtain ⟨b, off, rfl, hlt, c0, c1, c2, c3, c4, c5, c6, c7⟩ := HR.out k hk
    have k0 : (0 : Int) ≤ (k : Int) := by omega
    have k1 : (k : Int) < (l.length : Int) := by omega
    have tk : ((k : Int) != -1) = true := by simp <;> omega
    clear hr hv hm h0 hfd hf hon
    go_enter Try.func53, Try.ntmps53
    go_wp2_with fail
    refine HFD.out.mono ?_
    rintro e' w1 ⟨rfl, h1⟩
    have h2 := Holds.belowed H0.out h1
    have e0 := (h2.below.cell (p := ⟨b, off + k * 8, none⟩) hlt).trans c0
    have e1 := (h2.below.cell (p := ⟨b, off + k * 8 + 1, none⟩) hlt).trans c1
    have e2 := (h2.below.cell (p := ⟨b, off + k * 8 + 2, none⟩) hlt).trans c2
    have e3 := (h2.below.cell (p := ⟨b, off + k * 8 + 3, none⟩) hlt).trans c3
    have e4 := (h2.below.cell (p := ⟨b, off + k * 8 + 4, none⟩) hlt).trans c4
    have e5 := (h2.below.cell (p := ⟨b, off + k * 8 + 5, none⟩) hlt).trans c5
    have e6 := (h2.below.cell (p := ⟨b, off + k * 8 + 6, none⟩) hlt).trans c6
    have e7 := (h2.below.cell (p := ⟨b, off + k * 8 + 7, none⟩) hlt).trans c7
    clear c0 c1 c2 c3 c4 c5 c6 c7
    have s0 := h2
    have c0 := s0.cell 0 rfl
    have f0 := s0.frozen 0
    have s1 := s0.set 0 (.int .i64 (el l k).id)
    have c1 := s1.cell 1 rfl
    have f1 := s1.frozen 1
    have s2 := s1.set 1 (.int .i64 (el l k).kind)
    have c2 := s2.cell 2 rfl
    have f2 := s2.frozen 2
    have s3 := s2.set 2 (.int .i64 (el l k).x)
    have c3 := s3.cell 3 rfl
    have f3 := s3.frozen 3
    have s4 := s3.set 3 (.int .i64 (el l k).y)
    have c4 := s4.cell 4 rfl
    have f4 := s4.frozen 4
    have s5 := s4.set 4 (.int .i64 (el l k).vx)
    have c5 := s5.cell 5 rfl
    have f5 := s5.frozen 5
    have s6 := s5.set 5 (.int .i64 (el l k).vy)
    have c6 := s6.cell 6 rfl
    have f6 := s6.frozen 6
    have s7 := s6.set 6 (.int .i64 (el l k).hp)
    have c7 := s7.cell 7 rfl
    have f7 := s7.frozen 7
    have s8 := s7.set 7 (.int .i64 (el l k).wt)
    simp only [List.set] at s8
    have S8 := Lib.hid s8
    clear s0 s1 s2 s3 s4 s5 s6 s7 s8
    clear h1 h2
    go_wp2_with fail
    have hz := S8.out
    refine bodyPost_ret (results_cell_row rfl _ _ _ _ _ _ _ rfl hz.head.2 Try.underlying29 rfl (by kernel_rfl)) rfl ?_
    exact ⟨rfl, hz.below⟩

end Go.Proofs.Ytfcncmhcmbghpaa.Ents
