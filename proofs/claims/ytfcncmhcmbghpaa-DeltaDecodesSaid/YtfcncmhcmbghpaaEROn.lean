/- What an entity stands on, by the reference. -/
import Derived.Test.YtfcncmhcmbghpaaEOn
set_option linter.unusedVariables false
set_option linter.unusedSimpArgs false
namespace Go.Proofs.Ytfcncmhcmbghpaa.Ents
open Go.Sort Go.RowKit Go.Proofs.Ytfcncmhcmbghpaa.Mem Go.Proofs.Ytfcncmhcmbghpaa.Open Go.Proofs.Ytfcncmhcmbghpaa.Num Go.Proofs.Ytfcncmhcmbghpaa.Step

set_option maxHeartbeats 1000000 in
theorem eron (w : World) (v : Value) (l : List Enty) (id : Int) (hv : RdL w v 8 (l.map Enty.cells)) :
    Calls Try.prog 54 #[v, .int .i64 id] w fun e' w' => e' = .returned (.agg #[.int .i64 (onE l id).id, .int .i64 (onE l id).kind, .int .i64 (onE l id).x, .int .i64 (onE l id).y, .int .i64 (onE l id).vx, .int .i64 (onE l id).vy, .int .i64 (onE l id).hp, .int .i64 (onE l id).wt]) ∧ Below w.heap.size w w' := by
  obtain ⟨A, c, rfl, hca, hm, hr⟩ := cells_at hv
  have HR := Lib.hid hr
  have HML := Lib.hid (show l.length ≤ maxLen by omega)
  clear hr hv hm
  go_enter Try.func54, Try.ntmps54
  go_wp2_with fail
  go_loopw [5] (fun i wr => ∃ k : Nat, k ≤ l.length ∧ i = .int .i64 k ∧ wr = w.alloc (.cells #[.int .i64 0, .int .i64 0, .int .i64 0, .int .i64 0, .int .i64 0, .int .i64 0, .int .i64 0, .int .i64 0] 29) ∧ Hid (∀ j, j < k → (el l j).id ≠ id))
    (fun i _ => l.length - (intOf i).toNat)
  case atStart => exact ⟨0, Nat.zero_le _, rfl, rfl, Lib.hid (fun j hj => by omega)⟩
  case round =>
    obtain ⟨k, hk, rfl, rfl, HF⟩ := hrel
    by_cases hkn : k < l.length
    · obtain ⟨b, off, rfl, hlt, c0, c1, c2, c3, c4, c5, c6, c7⟩ := HR.out k hkn
      have HTS := Lib.hid (succ_len k (Nat.lt_of_lt_of_le hkn HML.out))
      have hbl := ((Holds.start w).alloc [.int .i64 0, .int .i64 0, .int .i64 0, .int .i64 0, .int .i64 0, .int .i64 0, .int .i64 0, .int .i64 0] 29).below
      have e0 := (hbl.cell (p := ⟨b, off + k * 8, none⟩) hlt).trans c0
      have e1 := (hbl.cell (p := ⟨b, off + k * 8 + 1, none⟩) hlt).trans c1
      have e2 := (hbl.cell (p := ⟨b, off + k * 8 + 2, none⟩) hlt).trans c2
      have e3 := (hbl.cell (p := ⟨b, off + k * 8 + 3, none⟩) hlt).trans c3
      have e4 := (hbl.cell (p := ⟨b, off + k * 8 + 4, none⟩) hlt).trans c4
      have e5 := (hbl.cell (p := ⟨b, off + k * 8 + 5, none⟩) hlt).trans c5
      have e6 := (hbl.cell (p := ⟨b, off + k * 8 + 6, none⟩) hlt).trans c6
      have e7 := (hbl.cell (p := ⟨b, off + k * 8 + 7, none⟩) hlt).trans c7
      have k0 : (0 : Int) ≤ (k : Int) := by omega
      have k1 : (k : Int) < (l.length : Int) := by omega
      clear c0 c1 c2 c3 c4 c5 c6 c7 hbl
      by_cases hN : (el l k).id = id
      · have t : ((el l k).id == id) = true := by simpa using hN
        have hon : onE l id = el l k := by
          have := find_hit l id k hkn hN HF.out
          unfold onE; rw [this, if_neg (by omega), Int.toNat_natCast]
        have HON := Lib.hid hon
        clear hN hon
        go_wp2_with fail
        rw [HON.out]
        have hz := (Holds.start w).alloc [.int .i64 (el l k).id, .int .i64 (el l k).kind, .int .i64 (el l k).x, .int .i64 (el l k).y, .int .i64 (el l k).vx, .int .i64 (el l k).vy, .int .i64 (el l k).hp, .int .i64 (el l k).wt] 29
        refine bodyPost_ret (results_cell_row rfl _ _ _ _ _ _ _ rfl hz.head.2 Try.underlying29 rfl (by kernel_rfl)) rfl ?_
        exact ⟨rfl, hz.below⟩
      · have t : ((el l k).id == id) = false := by simpa using hN
        have HN := Lib.hid hN
        clear hN
        go_wp2_with fail
        try rw [HTS.out]
        refine ⟨⟨k + 1, by omega, cast_succ k, by trivial, fun j hj => ?_⟩, succ_less hkn⟩
        by_cases hjk : j < k
        · exact HF.out j hjk
        · obtain rfl : j = k := by omega
          exact HN.out
    · obtain rfl : k = l.length := by omega
      have hon : onE l id = none_ id := by
        have := find_miss l id HF.out
        unfold onE; rw [if_pos this]
      have HON := Lib.hid hon
      clear hon
      by_cases h8 : 8 < id
      · have t8 : decide (8 < id) = true := by simpa using h8
        have H8 := Lib.hid h8
        clear h8
        go_wp2_with fail
        rw [HON.out, show none_ id = ⟨id, 2, 0, 0, 0, 0, 0, 0⟩ by unfold none_; rw [if_pos H8.out]]
        have hz := (Holds.start w).alloc [.int .i64 id, .int .i64 2, .int .i64 0, .int .i64 0, .int .i64 0, .int .i64 0, .int .i64 0, .int .i64 0] 29
        refine bodyPost_ret (results_cell_row rfl _ _ _ _ _ _ _ rfl hz.head.2 Try.underlying29 rfl (by kernel_rfl)) rfl ?_
        exact ⟨rfl, hz.below⟩
      · have t8 : decide (8 < id) = false := by simpa using h8
        have H8 := Lib.hid h8
        clear h8
        go_wp2_with fail
        rw [HON.out, show none_ id = ⟨id, 1, 0, 0, 0, 0, 0, 0⟩ by unfold none_; rw [if_neg (by have := H8.out; omega)]]
        have hz := (Holds.start w).alloc [.int .i64 id, .int .i64 1, .int .i64 0, .int .i64 0, .int .i64 0, .int .i64 0, .int .i64 0, .int .i64 0] 29
        refine bodyPost_ret (results_cell_row rfl _ _ _ _ _ _ _ rfl hz.head.2 Try.underlying29 rfl (by kernel_rfl)) rfl ?_
        exact ⟨rfl, hz.below⟩

end Go.Proofs.Ytfcncmhcmbghpaa.Ents
