/- An entity found by its ID, by the program and by the reference. -/
import Derived.Test.YtfcncmhcmbghpaaEList
import Derived.Shelf.Abstract
set_option linter.unusedVariables false
set_option linter.unusedSimpArgs false
namespace Go.Proofs.Ytfcncmhcmbghpaa.Ents
open Go.Shelf Go.Sort Go.RowKit Go.Proofs.Ytfcncmhcmbghpaa.Mem Go.Proofs.Ytfcncmhcmbghpaa.Open Go.Proofs.Ytfcncmhcmbghpaa.Num Go.Proofs.Ytfcncmhcmbghpaa.Step

theorem ehit (w : World) (e : Enty) (id : Int) (B : Nat) (hB : B < w.heap.size) (hc : w.cell? ⟨B, 0, none⟩ = some (.int .i64 id)) :
    Calls Try.prog 41 #[.agg #[.int .i64 e.id, .int .i64 e.kind, .int .i64 e.x, .int .i64 e.y, .int .i64 e.vx, .int .i64 e.vy, .int .i64 e.hp, .int .i64 e.wt], .pointer (some ⟨B, 0, none⟩)] w fun e' w' => e' = .returned (.bool (decide (e.id = id))) ∧ Below w.heap.size w w' := by
  have hH := (Holds.start w).alloc [.int .i64 e.id, .int .i64 e.kind, .int .i64 e.x, .int .i64 e.y, .int .i64 e.vx, .int .i64 e.vy, .int .i64 e.hp, .int .i64 e.wt] 29
  have e0 := hH.cell 0 rfl
  have e1 := (hH.below.cell (p := ⟨B, 0, none⟩) hB).trans hc
  have HH := Lib.hid hH.below
  clear hH
  go_enter Try.func41, Try.ntmps41
  go_wp2_with fail
  go_ret
  exact ⟨ret_b rfl, HH.out⟩

set_option maxHeartbeats 1000000 in
theorem eindex (w : World) (v : Value) (l : List Enty) (id : Int) (B : Nat) (hB : B < w.heap.size) (hc : w.cell? ⟨B, 0, none⟩ = some (.int .i64 id)) (hv : RdL w v 8 (l.map Enty.cells)) :
    Calls Try.prog 40 #[v, .func (.func 41) #[] #[.pointer (some ⟨B, 0, none⟩)]] w fun e' w' => e' = .returned (.int .i64 (find l id)) ∧ Below w.heap.size w w' := by
  obtain ⟨A, c, rfl, hca, hm, hr⟩ := cells_at hv
  have HR := Lib.hid hr
  have HML := Lib.hid (show l.length ≤ maxLen by omega)
  have HC := Lib.hid hc
  clear hr hv hm hc
  have eg := enters_of Try.func41 (by kernel_rfl) rfl
  go_enter Try.func40, Try.ntmps40
  go_wp2_with fail
  go_loopw [8] (fun i wr => ∃ k : Nat, k ≤ l.length ∧ i = .int .i64 k ∧ Below w.heap.size w wr ∧ Hid (∀ j, j < k → (el l j).id ≠ id))
    (fun i _ => l.length - (intOf i).toNat)
  case atStart => exact ⟨0, Nat.zero_le _, rfl, Below.refl _ _, Lib.hid (fun j hj => by omega)⟩
  case round =>
    obtain ⟨k, hk, rfl, hb, HF⟩ := hrel
    by_cases hkn : k < l.length
    · obtain ⟨b, off, rfl, hlt, c0, c1, c2, c3, c4, c5, c6, c7⟩ := HR.out k hkn
      have HTS := Lib.hid (succ_len k (Nat.lt_of_lt_of_le hkn HML.out))
      have e0 := (hb.cell (p := ⟨b, off + k * 8, none⟩) hlt).trans c0
      have e1 := (hb.cell (p := ⟨b, off + k * 8 + 1, none⟩) hlt).trans c1
      have e2 := (hb.cell (p := ⟨b, off + k * 8 + 2, none⟩) hlt).trans c2
      have e3 := (hb.cell (p := ⟨b, off + k * 8 + 3, none⟩) hlt).trans c3
      have e4 := (hb.cell (p := ⟨b, off + k * 8 + 4, none⟩) hlt).trans c4
      have e5 := (hb.cell (p := ⟨b, off + k * 8 + 5, none⟩) hlt).trans c5
      have e6 := (hb.cell (p := ⟨b, off + k * 8 + 6, none⟩) hlt).trans c6
      have e7 := (hb.cell (p := ⟨b, off + k * 8 + 7, none⟩) hlt).trans c7
      have k0 : (0 : Int) ≤ (k : Int) := by omega
      have k1 : (k : Int) < (l.length : Int) := by omega
      clear c0 c1 c2 c3 c4 c5 c6 c7
      have hh := ehit wr (el l k) id B (Nat.lt_of_lt_of_le hB hb.size) ((hb.cell (p := ⟨B, 0, none⟩) hB).trans HC.out)
      by_cases hN : (el l k).id = id
      · rw [decide_eq_true hN] at hh
        have HN := Lib.hid hN
        have HH := Lib.hid hh
        clear hN hh
        go_wp2_with (go_at_call 41; refine HH.out.mono ?_; rintro e' w2 ⟨rfl, h2⟩)
        go_ret
        refine ⟨ret_i ?_, hb.trans (h2.mono hb.size)⟩
        rw [find_hit l id k hkn HN.out HF.out]
      · rw [decide_eq_false hN] at hh
        have HN := Lib.hid hN
        have HH := Lib.hid hh
        clear hN hh
        go_wp2_with (go_at_call 41; refine HH.out.mono ?_; rintro e' w2 ⟨rfl, h2⟩)
        try rw [HTS.out]
        refine ⟨⟨k + 1, by omega, cast_succ k, hb.trans (h2.mono hb.size), fun j hj => ?_⟩, succ_less hkn⟩
        by_cases hjk : j < k
        · exact HF.out j hjk
        · obtain rfl : j = k := by omega
          exact HN.out
    · obtain rfl : k = l.length := by omega
      go_wp2_with fail
      go_ret
      refine ⟨ret_i ?_, hb⟩
      rw [find_miss l id HF.out]

set_option maxHeartbeats 1000000 in
theorem efind (w : World) (v : Value) (l : List Enty) (id : Int) (hv : RdL w v 8 (l.map Enty.cells)) :
    Calls Try.prog 18 #[v, .int .i64 id] w fun e' w' => e' = .returned (.int .i64 (find l id)) ∧ Below w.heap.size w w' := by
  have hH := (Holds.start w).alloc [.int .i64 id] 3
  have hi := eindex _ v l id w.heap.size hH.lt (hH.cell 0 rfl) (RdL.below hv hH.below)
  have HI := Lib.hid hi
  have HB := Lib.hid hH.below
  clear hH hi hv
  go_enter Try.func18, Try.ntmps18
  go_wp2_with fail
  refine HI.out.mono ?_
  rintro e' w2 ⟨rfl, h2⟩
  have h3 := HB.out.trans (h2.mono HB.out.size)
  go_wp2_with fail
  go_ret
  exact ⟨rfl, h3⟩

set_option maxHeartbeats 1000000 in
theorem erfind (w : World) (v : Value) (l : List Enty) (id : Int) (hv : RdL w v 8 (l.map Enty.cells)) :
    Calls Try.prog 19 #[v, .int .i64 id] w fun e' w' => e' = .returned (.int .i64 (find l id)) ∧ w = w' := by
  obtain ⟨A, c, rfl, hca, hm, hr⟩ := cells_at hv
  have HR := Lib.hid hr
  have HML := Lib.hid (show l.length ≤ maxLen by omega)
  clear hr hv hm
  go_enter Try.func19, Try.ntmps19
  go_wp2_with fail
  go_loopw [5] (fun i wr => ∃ k : Nat, k ≤ l.length ∧ i = .int .i64 k ∧ wr = w ∧ Hid (∀ j, j < k → (el l j).id ≠ id))
    (fun i _ => l.length - (intOf i).toNat)
  case atStart => exact ⟨0, Nat.zero_le _, rfl, rfl, Lib.hid (fun j hj => by omega)⟩
  case round =>
    obtain ⟨k, hk, rfl, rfl, HF⟩ := hrel
    by_cases hkn : k < l.length
    · obtain ⟨b, off, rfl, hlt, c0, _⟩ := HR.out k hkn
      have HTS := Lib.hid (succ_len k (Nat.lt_of_lt_of_le hkn HML.out))
      have k0 : (0 : Int) ≤ (k : Int) := by omega
      have k1 : (k : Int) < (l.length : Int) := by omega
      by_cases hN : (el l k).id = id
      · have t : ((el l k).id == id) = true := by simpa using hN
        have HN := Lib.hid hN
        clear hN
        go_wp2_with fail
        go_ret
        refine ⟨ret_i ?_, rfl⟩
        rw [find_hit l id k hkn HN.out HF.out]
      · have t : ((el l k).id == id) = false := by simpa using hN
        have HN := Lib.hid hN
        clear hN
        go_wp2_with fail
        try rw [HTS.out]
        refine ⟨⟨k + 1, by omega, cast_succ k, by trivial, fun j hj => ?_⟩, succ_less hkn⟩
        by_cases hjk : j < k
        · exact HF.out j hjk
        · obtain rfl : j = k := by omega
          exact HN.out
    · obtain rfl : k = l.length := by omega
      go_wp2_with fail
      go_ret
      refine ⟨ret_i ?_, rfl⟩
      rw [find_miss l id HF.out]

end Go.Proofs.Ytfcncmhcmbghpaa.Ents
