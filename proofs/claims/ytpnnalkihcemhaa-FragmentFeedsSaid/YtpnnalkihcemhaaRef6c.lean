/- The reference's bits: what Small leaves, and its bytes. -/
import Derived.Test.YtpnnalkihcemhaaRef6
set_option linter.unusedVariables false
set_option linter.unusedSimpArgs false
namespace Go.Proofs.Ytpnnalkihcemhaa.Wr
open Go.RowKit Go.Proofs.Ytpnnalkihcemhaa.Mem Go.Proofs.Ytpnnalkihcemhaa.Bits Go.Proofs.Ytpnnalkihcemhaa.Num Go.Proofs.YtpnnalkihcemhaaW.PrintWords

set_option maxHeartbeats 2000000 in
set_option maxRecDepth 100000 in
theorem rbytesV (W : World) (B : Nat) (w : World) (b : Nat) (e : TypeId) (l : List Bool) (F : List Ent) (v : Value) (hH : Holds W B w (.st b [v] e :: .rw v 4 1 l.length (bools l) :: F)) (hl : l.length ≤ 1000000000) :
    Calls Try.prog 30 #[.pointer (some ⟨b, 0, none⟩)] w fun e' w' => ∃ v', e' = .returned v' ∧ Holds W B w' (.st b [v] e :: .rw v 4 1 l.length (bools l) :: .rw v' 5 1 (nby l) (nums .u8 (pack l)) :: F) := by
  obtain ⟨A, c, rfl⟩ := hH.up1.slice
  obtain ⟨i0, hi, hz0, hz1, hz2⟩ := info_parts info_u8
  have HN := Lib.hid (show 8 * nby l ≤ l.length + 7 ∧ l.length ≤ 8 * nby l from by unfold nby; omega)
  have hN : nby l ≤ 1000000000 := by have := HN.out; omega
  go_enter Try.func30, Try.ntmps30
  go_wp2
  go_loopw [3, 4] (fun o i wr => ∃ j : Nat, j ≤ nby l ∧ i = .int .i64 (8 * (j : Int)) ∧ Holds W B wr (.rw o 5 1 j (nums .u8 ((pack l).take j)) :: .st b [.slice A l.length c] e :: .rw (.slice A l.length c) 4 1 l.length (bools l) :: F))
    (fun _ i _ => l.length + 8 - (intOf i).toNat)
  case atStart => exact ⟨0, Nat.zero_le _, by go_num, by simpa [nums] using hH.nilrow 5 1⟩
  case round =>
    obtain ⟨j, hj, rfl, hR⟩ := hrel
    have c0 := hR.up1.cell 0 (v := .slice A l.length c) rfl
    obtain ⟨wo, hwo⟩ : ∃ wo : World, wo = wr := ⟨_, rfl⟩
    subst hwo
    by_cases hlt : 8 * j < l.length
    · have hjn : j < nby l := by have := HN.out; omega
      obtain ⟨g, cp, he, hcp, hBg, hgl⟩ := hR.up2.row (by omega)
      simp only [Value.slice.injEq] at he
      obtain ⟨rfl, _, rfl⟩ := he
      have hrow := hR.up2
      go_wp2_with fail
      go_loop [5, 6, 7] (fun cv ov kv => ∃ t : Nat, t ≤ 8 ∧ 8 * j + t ≤ l.length ∧ kv = .int .i64 (8 * (j : Int) + (t : Int)) ∧ cv = .int .i64 (val ((l.drop (8 * j)).take t)) ∧ ov = .int .i64 (2 ^ t)) (fun _ _ kv => l.length - (intOf kv).toNat)
      case atStart => exact ⟨0, by omega, by omega, by simp, by simp [val], by simp⟩
      case round =>
        obtain ⟨t, ht8, htl, rfl, rfl, rfl⟩ := hrel
        by_cases hin : t < 8 ∧ 8 * j + t < l.length
        · obtain ⟨ht, hjl⟩ := hin
          have htn : (8 * (j : Int) + (t : Int)).toNat = 8 * j + t := by omega
          have hcell : wo.cell? ⟨g, 8 * j + t, none⟩ = some (.bool l[8 * j + t]) := by
            rw [hrow.rcell (8 * j + t) (by omega)]
            simp [bools, hjl]
          have hval := val_take_succ (l.drop (8 * j)) t (by rw [List.length_drop]; omega)
          rw [List.getElem_drop] at hval
          generalize hbt : l[8 * j + t] = bt at *
          have hvr := val_range ((l.drop (8 * j)).take t)
          have hpt : (2 : Int) ^ t ≤ 128 ∧ 0 < (2 : Int) ^ t := by
            refine ⟨?_, Int.pow_pos (by decide)⟩
            have : (2 : Int) ^ t ≤ 2 ^ 7 := by exact_mod_cast Nat.pow_le_pow_right (by decide) (show t ≤ 7 by omega)
            simpa using this
          have hlt2 : ((l.drop (8 * j)).take t).length = t := by simp; omega
          rw [hlt2] at hvr
          have hps : (2 : Int) ^ (t + 1) = 2 ^ t * 2 := Int.pow_succ _ _
          have HV := Lib.hid hval
          have HP := Lib.hid hps
          clear hval hps hbt hlt2
          generalize val ((l.drop (8 * j)).take t) = cv at *
          generalize (2 : Int) ^ t = pt at *
          cases bt
          all_goals
            go_wp2_with fail
            refine ⟨⟨_, _, _, ⟨t + 1, by omega, by omega, ?_, ?_, ?_⟩, rfl, rfl, rfl⟩, ?_⟩
            · go_num
            · rw [HV.out]; simp [b01]
            · rw [HP.out]
            · simp [intOf]; omega
        · have htk : (l.drop (8 * j)).take t = (l.drop (8 * j)).take 8 := by
            by_cases h8 : t = 8
            · rw [h8]
            · have hle : (l.drop (8 * j)).length ≤ t := by rw [List.length_drop]; omega
              rw [List.take_of_length_le hle, List.take_of_length_le (by omega)]
          have hpk := pack_take_succ l j hjn
          have hrange := pack_byte l _ (List.mem_of_getElem? (pack_get l j hjn))
          rw [← htk] at hpk hrange
          generalize val ((l.drop (8 * j)).take t) = cv at *
          obtain ⟨hr0, hr1⟩ := hrange
          have HPK := Lib.hid hpk
          clear hpk htk
          have hRR := Lib.hid hR
          clear hrow
          by_cases h8 : t = 8
          all_goals
            first
              | (have ht1 : ¬ 8 * (j : Int) + (t : Int) < 8 * (j : Int) + 8 := by omega)
              | (have ht1 : 8 * (j : Int) + (t : Int) < 8 * (j : Int) + 8 := by omega
                 have ht2 : ¬ 8 * (j : Int) + (t : Int) < (l.length : Int) := by omega)
            clear h8 hin
            go_wp2_with (at_builtin; refine wpList_append_own_at _ rfl (.tmp 45) (.tmp 48) 25 rfl B 5 i0 (.int .u8 0) 1 1 Try.underlying25 hi hz0 hz1 hz2 rfl (by decide) _ _ _ rfl (hRR.out.own.alloc _) ⟨wo.heap.size, 0, none⟩ 1 1 [.int .u8 cv] rfl rfl (cell_one_new _ _ _) ?c2 ?c3 ?c4 ?c5 ?_)
            case c2 => first | rfl | (intro u hu; simp at hu; subst hu; rfl)
            case c3 => unfold maxLen; omega
            case c4 => omega
            case c5 => have := hR.size; simp; omega
            intro v' w1 ho hg _ hat
            have h1 := (hR.alloc' (.cells #[.int .u8 cv] 5)).grew ho hg (hat.imp id (fun h => ⟨_, h, by simp⟩))
            have H1 := Lib.hid h1
            clear ho hg hat hR h1
            go_wp2_with fail
            refine ⟨⟨j + 1, by omega, by go_num, ?_⟩, by simp [intOf]; omega⟩
            rw [HPK.out]
            have := H1.out
            simpa [nums] using this
    · have hjn : j = nby l := by have := HN.out; omega
      subst hjn
      go_wp2
      go_ret
      refine ⟨u3, rfl, ?_⟩
      have := hR.up2.up2
      rwa [List.take_of_length_le (by rw [pack_length]; exact Nat.le_refl _)] at this

theorem rbytes (W : World) (B : Nat) (w : World) (b : Nat) (e : TypeId) (l : List Bool) (F : List Ent) (hw : HasB W B w b e l F) (hl : l.length ≤ 1000000000) :
    Calls Try.prog 30 #[.pointer (some ⟨b, 0, none⟩)] w fun e' w' => ∃ v', e' = .returned v' ∧ HasB W B w' b e l (.rw v' 5 1 (nby l) (nums .u8 (pack l)) :: F) := by
  obtain ⟨v, hH⟩ := hw
  exact (rbytesV W B w b e l F v hH hl).mono fun _ _ ⟨v', h1, h2⟩ => ⟨v', h1, v, h2⟩

end Go.Proofs.Ytpnnalkihcemhaa.Wr
