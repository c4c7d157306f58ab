/- An entity with one field another one; by the reference. -/
import Derived.Test.YtfcncmhcmbghpaaTakeGP
import Derived.Test.YtfcncmhcmbghpaaWWords
set_option linter.unusedVariables false
set_option linter.unusedSimpArgs false
namespace Go.Proofs.Ytfcncmhcmbghpaa.Ents
open Go.Sort Go.RowKit Go.Proofs.Ytfcncmhcmbghpaa.Mem Go.Proofs.Ytfcncmhcmbghpaa.Open Go.Proofs.Ytfcncmhcmbghpaa.Num Go.Proofs.Ytfcncmhcmbghpaa.Step Go.Proofs.Ytfcncmhcmbghpaa.Wr Go.Proofs.Ytfcncmhcmbghpaa.Bits

set_option maxHeartbeats 1000000 in
theorem rwith0 (w : World) (e : Enty) (z : Int) : Calls Try.prog 61 #[.agg #[.int .i64 e.id, .int .i64 e.kind, .int .i64 e.x, .int .i64 e.y, .int .i64 e.vx, .int .i64 e.vy, .int .i64 e.hp, .int .i64 e.wt], .int .i64 0, .int .i64 z] w fun e' w' => e' = .returned (.agg #[.int .i64 e.id, .int .i64 e.kind, .int .i64 z, .int .i64 e.y, .int .i64 e.vx, .int .i64 e.vy, .int .i64 e.hp, .int .i64 e.wt]) ∧ Below w.heap.size w w' := by
  have h2 := holds_at ((Holds.start w).alloc' (.cells #[.int .i64 e.id, .int .i64 e.kind, .int .i64 z, .int .i64 e.y, .int .i64 e.vx, .int .i64 e.vy, .int .i64 e.hp, .int .i64 e.wt] 29)) (cs := [.int .i64 e.id, .int .i64 e.kind, .int .i64 z, .int .i64 e.y, .int .i64 e.vx, .int .i64 e.vy, .int .i64 e.hp, .int .i64 e.wt]) (e := 29) (show w.heap.size + 1 = _ by simp only [sz])
  have S8 := Lib.hid h2
  clear h2
  go_enter Try.func61, Try.ntmps61
  go_wp2_with fail
  have hz := S8.out
  refine bodyPost_ret (results_cell_row rfl _ _ _ _ _ _ _ rfl hz.head.2 Try.underlying29 rfl (by kernel_rfl)) rfl ?_
  exact ⟨rfl, hz.below⟩

set_option maxHeartbeats 1000000 in
theorem rwith1 (w : World) (e : Enty) (z : Int) : Calls Try.prog 61 #[.agg #[.int .i64 e.id, .int .i64 e.kind, .int .i64 e.x, .int .i64 e.y, .int .i64 e.vx, .int .i64 e.vy, .int .i64 e.hp, .int .i64 e.wt], .int .i64 1, .int .i64 z] w fun e' w' => e' = .returned (.agg #[.int .i64 e.id, .int .i64 e.kind, .int .i64 e.x, .int .i64 z, .int .i64 e.vx, .int .i64 e.vy, .int .i64 e.hp, .int .i64 e.wt]) ∧ Below w.heap.size w w' := by
  have h2 := holds_at ((Holds.start w).alloc' (.cells #[.int .i64 e.id, .int .i64 e.kind, .int .i64 e.x, .int .i64 z, .int .i64 e.vx, .int .i64 e.vy, .int .i64 e.hp, .int .i64 e.wt] 29)) (cs := [.int .i64 e.id, .int .i64 e.kind, .int .i64 e.x, .int .i64 z, .int .i64 e.vx, .int .i64 e.vy, .int .i64 e.hp, .int .i64 e.wt]) (e := 29) (show w.heap.size + 1 = _ by simp only [sz])
  have S8 := Lib.hid h2
  clear h2
  go_enter Try.func61, Try.ntmps61
  go_wp2_with fail
  have hz := S8.out
  refine bodyPost_ret (results_cell_row rfl _ _ _ _ _ _ _ rfl hz.head.2 Try.underlying29 rfl (by kernel_rfl)) rfl ?_
  exact ⟨rfl, hz.below⟩

set_option maxHeartbeats 1000000 in
theorem rwith2 (w : World) (e : Enty) (z : Int) : Calls Try.prog 61 #[.agg #[.int .i64 e.id, .int .i64 e.kind, .int .i64 e.x, .int .i64 e.y, .int .i64 e.vx, .int .i64 e.vy, .int .i64 e.hp, .int .i64 e.wt], .int .i64 2, .int .i64 z] w fun e' w' => e' = .returned (.agg #[.int .i64 e.id, .int .i64 e.kind, .int .i64 e.x, .int .i64 e.y, .int .i64 z, .int .i64 e.vy, .int .i64 e.hp, .int .i64 e.wt]) ∧ Below w.heap.size w w' := by
  have h2 := holds_at ((Holds.start w).alloc' (.cells #[.int .i64 e.id, .int .i64 e.kind, .int .i64 e.x, .int .i64 e.y, .int .i64 z, .int .i64 e.vy, .int .i64 e.hp, .int .i64 e.wt] 29)) (cs := [.int .i64 e.id, .int .i64 e.kind, .int .i64 e.x, .int .i64 e.y, .int .i64 z, .int .i64 e.vy, .int .i64 e.hp, .int .i64 e.wt]) (e := 29) (show w.heap.size + 1 = _ by simp only [sz])
  have S8 := Lib.hid h2
  clear h2
  go_enter Try.func61, Try.ntmps61
  go_wp2_with fail
  have hz := S8.out
  refine bodyPost_ret (results_cell_row rfl _ _ _ _ _ _ _ rfl hz.head.2 Try.underlying29 rfl (by kernel_rfl)) rfl ?_
  exact ⟨rfl, hz.below⟩

set_option maxHeartbeats 1000000 in
theorem rwith3 (w : World) (e : Enty) (z : Int) : Calls Try.prog 61 #[.agg #[.int .i64 e.id, .int .i64 e.kind, .int .i64 e.x, .int .i64 e.y, .int .i64 e.vx, .int .i64 e.vy, .int .i64 e.hp, .int .i64 e.wt], .int .i64 3, .int .i64 z] w fun e' w' => e' = .returned (.agg #[.int .i64 e.id, .int .i64 e.kind, .int .i64 e.x, .int .i64 e.y, .int .i64 e.vx, .int .i64 z, .int .i64 e.hp, .int .i64 e.wt]) ∧ Below w.heap.size w w' := by
  have h2 := holds_at ((Holds.start w).alloc' (.cells #[.int .i64 e.id, .int .i64 e.kind, .int .i64 e.x, .int .i64 e.y, .int .i64 e.vx, .int .i64 z, .int .i64 e.hp, .int .i64 e.wt] 29)) (cs := [.int .i64 e.id, .int .i64 e.kind, .int .i64 e.x, .int .i64 e.y, .int .i64 e.vx, .int .i64 z, .int .i64 e.hp, .int .i64 e.wt]) (e := 29) (show w.heap.size + 1 = _ by simp only [sz])
  have S8 := Lib.hid h2
  clear h2
  go_enter Try.func61, Try.ntmps61
  go_wp2_with fail
  have hz := S8.out
  refine bodyPost_ret (results_cell_row rfl _ _ _ _ _ _ _ rfl hz.head.2 Try.underlying29 rfl (by kernel_rfl)) rfl ?_
  exact ⟨rfl, hz.below⟩

set_option maxHeartbeats 1000000 in
theorem rwith4 (w : World) (e : Enty) (z : Int) : Calls Try.prog 61 #[.agg #[.int .i64 e.id, .int .i64 e.kind, .int .i64 e.x, .int .i64 e.y, .int .i64 e.vx, .int .i64 e.vy, .int .i64 e.hp, .int .i64 e.wt], .int .i64 4, .int .i64 z] w fun e' w' => e' = .returned (.agg #[.int .i64 e.id, .int .i64 e.kind, .int .i64 e.x, .int .i64 e.y, .int .i64 e.vx, .int .i64 e.vy, .int .i64 z, .int .i64 e.wt]) ∧ Below w.heap.size w w' := by
  have h2 := holds_at ((Holds.start w).alloc' (.cells #[.int .i64 e.id, .int .i64 e.kind, .int .i64 e.x, .int .i64 e.y, .int .i64 e.vx, .int .i64 e.vy, .int .i64 z, .int .i64 e.wt] 29)) (cs := [.int .i64 e.id, .int .i64 e.kind, .int .i64 e.x, .int .i64 e.y, .int .i64 e.vx, .int .i64 e.vy, .int .i64 z, .int .i64 e.wt]) (e := 29) (show w.heap.size + 1 = _ by simp only [sz])
  have S8 := Lib.hid h2
  clear h2
  go_enter Try.func61, Try.ntmps61
  go_wp2_with fail
  have hz := S8.out
  refine bodyPost_ret (results_cell_row rfl _ _ _ _ _ _ _ rfl hz.head.2 Try.underlying29 rfl (by kernel_rfl)) rfl ?_
  exact ⟨rfl, hz.below⟩

set_option maxHeartbeats 1000000 in
theorem rwith5 (w : World) (e : Enty) (z : Int) : Calls Try.prog 61 #[.agg #[.int .i64 e.id, .int .i64 e.kind, .int .i64 e.x, .int .i64 e.y, .int .i64 e.vx, .int .i64 e.vy, .int .i64 e.hp, .int .i64 e.wt], .int .i64 5, .int .i64 z] w fun e' w' => e' = .returned (.agg #[.int .i64 e.id, .int .i64 e.kind, .int .i64 e.x, .int .i64 e.y, .int .i64 e.vx, .int .i64 e.vy, .int .i64 e.hp, .int .i64 z]) ∧ Below w.heap.size w w' := by
  have h2 := holds_at ((Holds.start w).alloc' (.cells #[.int .i64 e.id, .int .i64 e.kind, .int .i64 e.x, .int .i64 e.y, .int .i64 e.vx, .int .i64 e.vy, .int .i64 e.hp, .int .i64 z] 29)) (cs := [.int .i64 e.id, .int .i64 e.kind, .int .i64 e.x, .int .i64 e.y, .int .i64 e.vx, .int .i64 e.vy, .int .i64 e.hp, .int .i64 z]) (e := 29) (show w.heap.size + 1 = _ by simp only [sz])
  have S8 := Lib.hid h2
  clear h2
  go_enter Try.func61, Try.ntmps61
  go_wp2_with fail
  have hz := S8.out
  refine bodyPost_ret (results_cell_row rfl _ _ _ _ _ _ _ rfl hz.head.2 Try.underlying29 rfl (by kernel_rfl)) rfl ?_
  exact ⟨rfl, hz.below⟩

theorem rwith (w : World) (bs : Enty) (d : List Int) (x z : Int) (r : List Int) (k : Nat) (hd : d.length = k) (hr : k + 1 + r.length = 6) (v v' : Value) (hv : v = (withL bs (d ++ x :: r)).val) (hv' : v' = (withL bs ((d ++ [z]) ++ r)).val) :
    Calls Try.prog 61 #[v, .int .i64 (k : Int), .int .i64 z] w fun e' w' => e' = .returned v' ∧ Below w.heap.size w w' := by
  subst hv hv'
  obtain rfl | rfl | rfl | rfl | rfl | rfl : k = 0 ∨ k = 1 ∨ k = 2 ∨ k = 3 ∨ k = 4 ∨ k = 5 := by omega
  · have hr0 : r.length = 5 := by omega
    match d, hd, r, hr0 with
    | [], _, [a, b, c, e, f], _ => exact rwith0 w ⟨bs.id, bs.kind, x, a, b, c, e, f⟩ z
  · have hr0 : r.length = 4 := by omega
    match d, hd, r, hr0 with
    | [a], _, [b, c, e, f], _ => exact rwith1 w ⟨bs.id, bs.kind, a, x, b, c, e, f⟩ z
  · have hr0 : r.length = 3 := by omega
    match d, hd, r, hr0 with
    | [a, b], _, [c, e, f], _ => exact rwith2 w ⟨bs.id, bs.kind, a, b, x, c, e, f⟩ z
  · have hr0 : r.length = 2 := by omega
    match d, hd, r, hr0 with
    | [a, b, c], _, [e, f], _ => exact rwith3 w ⟨bs.id, bs.kind, a, b, c, x, e, f⟩ z
  · have hr0 : r.length = 1 := by omega
    match d, hd, r, hr0 with
    | [a, b, c, e], _, [f], _ => exact rwith4 w ⟨bs.id, bs.kind, a, b, c, e, x, f⟩ z
  · have hr0 : r.length = 0 := by omega
    match d, hd, r, hr0 with
    | [a, b, c, e, f], _, [], _ => exact rwith5 w ⟨bs.id, bs.kind, a, b, c, e, f, x⟩ z

end Go.Proofs.Ytfcncmhcmbghpaa.Ents
