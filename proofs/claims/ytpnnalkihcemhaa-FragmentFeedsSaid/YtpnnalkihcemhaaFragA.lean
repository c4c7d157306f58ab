/- What a program that does nothing does not answer, of messages in parts. -/
import Derived.Test.YtpnnalkihcemhaaFragR
import Derived.Laws.OwnMore
set_option linter.unusedVariables false
set_option linter.unusedSimpArgs false
namespace Go.Proofs.Ytpnnalkihcemhaa.Frag
open Go.Sort Go.RowKit Go.Proofs.Ytpnnalkihcemhaa.Mem Go.Proofs.Ytpnnalkihcemhaa.Bits Go.Proofs.Ytpnnalkihcemhaa.Wr Go.Proofs.Ytpnnalkihcemhaa.Num Go.Proofs.Ytpnnalkihcemhaa.Step Go.Proofs.YtpnnalkihcemhaaW.PrintWords

theorem mk301 : ∃ zs : Array Value, zs.toList = nums .u8 (List.replicate 301 0) ∧ ∀ w, (Instr.makeSlice 25 (.int .i64 301) (.int .i64 301)).run Try.prog w = .ok (.slice (some ⟨w.heap.size, 0, none⟩) 301 301) (w.alloc (.cells zs 5)) := by
  obtain ⟨i0, hi, hz0, hz1, hz2⟩ := info_parts info_u8
  refine ⟨madeCells (Value.int .u8 0).cells 301, ?_, fun w => ?_⟩
  · show (madeCells #[Value.int .u8 0] 301).toList = _
    rw [toList_madeCells_one]
    rw [nums, List.map_replicate]
  · have := run_make (P := Try.prog) w 25 5 i0 (.int .u8 0) Try.underlying25 hi hz0 .i64 .i64 301 301 (by decide) (by decide) (by rw [hz2]; decide) (by decide)
    rw [hz1] at this
    exact this

theorem zeros_err : errS (List.replicate 301 0) = 0 := by unfold errS; rw [List.length_replicate]; decide
theorem zeros_len : (splitL 7 (List.replicate 301 0)).length = 2 := by rw [splitL_length, List.length_replicate]; decide
theorem zeros_part : (part 7 (List.replicate 301 0) 1).length = 4 := by rw [part_length, List.length_replicate]; decide

set_option maxHeartbeats 1000000 in
theorem awake15 (w : World) : Calls Try.prog 14 #[] w fun e' w' => e' = .returned (.bool true) ∧ Below w.heap.size w w' := by
  obtain ⟨zs, hzs, hmk⟩ := mk301
  have hH := (Holds.start w).mkrow zs.toList 5 1 301 (by rw [hzs, nums_length, List.length_replicate]) (by unfold maxLen; decide)
  rw [Array.toArray_toList] at hH
  have hrd := hH.rd
  rw [hzs] at hrd
  have hl : 301 = (List.replicate 301 (0 : Int)).length := by rw [List.length_replicate]
  have hs := fsplit (w.alloc (.cells zs 5)) 7 (.slice (some ⟨w.heap.size, 0, none⟩) 301 301) (List.replicate 301 0) (by decide) (by decide) (by rw [← hl]; exact hrd)
  rw [zeros_err, partsOf_ok zeros_err] at hs
  have HS := Lib.hid hs
  have HB := Lib.hid hH.below
  clear hzs hH hrd hl hs
  go_enter Try.func14, Try.ntmps14
  go_wp2_with fail
  refine HS.out.mono ?_
  rintro e' w2 ⟨v2, rfl, hb, hR⟩
  have hbw := HB.out.trans (hb.mono HB.out.size)
  obtain ⟨A, c, rfl, hc, hm, hr⟩ := hR.form
  rw [zeros_len] at hc ⊢
  obtain ⟨b, off, A', c', rfl, hlt, _, _, hcell, _⟩ := hr 1 _ (splitL_get 7 _ 1 (by rw [List.length_replicate]; decide))
  rw [zeros_part] at hcell
  clear hr hm hR hb HS HB
  go_wp2_with fail
  go_ret
  exact ⟨rfl, hbw⟩

end Go.Proofs.Ytpnnalkihcemhaa.Frag
