/- The reference's sender of lines. -/
import Derived.Test.YtpnnalkihcemhaaStrConf
import Derived.Test.YtpnnalkihcemhaaRef6c
set_option linter.unusedVariables false
set_option linter.unusedSimpArgs false
namespace Go.Proofs.Ytpnnalkihcemhaa.Str
open Go.Sort Go.RowKit Go.Proofs.Ytpnnalkihcemhaa.Mem Go.Proofs.Ytpnnalkihcemhaa.Bits Go.Proofs.Ytpnnalkihcemhaa.Wr Go.Proofs.Ytpnnalkihcemhaa.Num Go.Proofs.Ytpnnalkihcemhaa.Step Go.Proofs.YtpnnalkihcemhaaW.PrintWords

/-- The reference's sender at the head of block b: all lines, and how many are gone. -/
def HasQ (W : World) (B : Nat) (w : World) (b : Nat) (all : List ByteArray) (gone : Nat) (F : List Ent) : Prop :=
  ∃ v, Holds W B w (.st b [v, .int .i64 (gone : Int)] 68 :: .rw v 9 1 all.length (strs all) :: F)

theorem q_facts {n g : Nat} (hg : g ≤ n) (hn : n ≤ 1000) : IntKind.i64.wrap ((n : Int) - (g : Int)) = ((n - g : Nat) : Int) ∧ wrap64 ((n : Int) - (g : Int)) = ((n - g : Nat) : Int) ∧ (n : Int) - (g : Int) = ((n - g : Nat) : Int) ∧ IntKind.i64.wrap ((n - g : Nat) : Int) = ((n - g : Nat) : Int) := by
  rw [wrap_i64, wrap_i64]; unfold wrap64; omega

set_option maxHeartbeats 1000000 in
theorem rqueue (W : World) (B : Nat) (w : World) (b : Nat) (all : List ByteArray) (gone : Nat) (F : List Ent) (t : ByteArray) (hS : HasQ W B w b all gone F) (hg : gone ≤ all.length) (hl : all.length ≤ 300) (h32 : all.length - gone ≤ 32) (htm : t.size ≤ maxLen) :
    Calls Try.prog 26 #[.pointer (some ⟨b, 0, none⟩), .string t] w fun e' w' => e' = .returned (.int .i64 (qerr (all.drop gone) t)) ∧ HasQ W B w' b (if qerr (all.drop gone) t = 0 then all ++ [t] else all) gone F := by
  obtain ⟨i0, hi, hz0, hz1, hz2⟩ := info_parts info_str
  obtain ⟨v, hH⟩ := hS
  obtain ⟨A, c, rfl⟩ := hH.up1.slice
  have c0 := hH.cell 0 rfl
  have c1 := hH.cell 1 rfl
  have hdl : (all.drop gone).length = all.length - gone := List.length_drop
  obtain ⟨d, hd⟩ : ∃ d, all.length - gone = d := ⟨_, rfl⟩
  obtain ⟨x1, x2, x3, x4⟩ := q_facts hg (show all.length ≤ 1000 by omega)
  rw [hd] at x1 x2 x3 x4 hdl
  by_cases hz : t.size = 0
  · have he : qerr (all.drop gone) t = 1 := by unfold qerr; rw [if_neg (by omega)]
    rw [he, if_neg (by decide)]
    have tb : ((t.size : Int) == 0) = true := beq_iff_eq.2 (by omega)
    have HH := Lib.hid hH
    clear hH hz he hdl hd hg hl h32 c0 c1 x1 x2 x3 x4 htm
    go_enter Try.func26, Try.ntmps26
    go_wp2_with fail
    go_ret
    exact ⟨rfl, _, HH.out⟩
  · have tb : ((t.size : Int) == 0) = false := beq_eq_false_iff_ne.2 (by omega)
    by_cases h60 : 60 < t.size
    · have he : qerr (all.drop gone) t = 1 := by unfold qerr; rw [if_neg (by omega)]
      rw [he, if_neg (by decide)]
      have tb2 : decide ((60 : Int) < (t.size : Int)) = true := by simp; omega
      have HH := Lib.hid hH
      clear hH hz h60 he hdl hd hg hl h32 c0 c1 x1 x2 x3 x4 htm
      go_enter Try.func26, Try.ntmps26
      go_wp2_with fail
      go_ret
      exact ⟨rfl, _, HH.out⟩
    · have tb2 : decide ((60 : Int) < (t.size : Int)) = false := by simp; omega
      have E0 := cell_regrown c0
      have E1 := cell_regrown c1
      have HH := Lib.hid hH
      by_cases hfull : d = 32
      · have he : qerr (all.drop gone) t = 7 := by unfold qerr; rw [if_pos (by omega), if_pos (by omega)]
        rw [he, if_neg (by decide)]
        have t3 : decide ((32 : Int) ≤ (d : Int)) = true := by simp; omega
        clear hH hz h60 he hdl hd hg hl h32 c0 c1 htm hfull
        go_enter Try.func26, Try.ntmps26
        go_wp2_with fail
        refine wp_region_quiet_below (by kernel_rfl) (by kernel_rfl) ?_
        repeat (go_big_quiet_step (fail))
        refine wpQuiet_nil ?_
        intro _ hw'
        obtain ⟨⟨dq, osq⟩, hw''⟩ := hw'
        subst hw''
        have hbx := below_regrown w dq osq
        clear E0 E1
        generalize grow (redrawn w dq) osq = w4 at *
        have H4 := Lib.hid (Holds.belowed HH.out hbx)
        clear hbx HH
        go_wp2_with fail
        go_ret
        exact ⟨rfl, _, H4.out⟩
      · have he : qerr (all.drop gone) t = 0 := by unfold qerr; rw [if_pos (by omega), if_neg (by omega)]
        rw [he, if_pos rfl]
        have t3 : decide ((32 : Int) ≤ (d : Int)) = false := by simp; omega
        have HB1 : Hid (all.length + 1 ≤ maxLen) := by show all.length + 1 ≤ maxLen; unfold maxLen; omega
        have HB2 : Hid ((all.length + 1) * 16 ≤ 140737488355328) := by show (all.length + 1) * 16 ≤ 140737488355328; omega
        clear hH hz h60 he hdl hd hg hl h32 c0 c1 htm hfull
        go_enter Try.func26, Try.ntmps26
        go_wp2_with fail
        refine wp_region_quiet_below (by kernel_rfl) (by kernel_rfl) ?_
        repeat (go_big_quiet_step (fail))
        refine wpQuiet_nil ?_
        intro _ hw'
        obtain ⟨⟨dq, osq⟩, hw''⟩ := hw'
        subst hw''
        have hbx := below_regrown w dq osq
        clear E0 E1
        generalize grow (redrawn w dq) osq = w4 at *
        have h4 := Holds.belowed HH.out hbx
        have c0 := h4.cell 0 rfl
        have f0 := h4.frozen 0
        have h5 := h4.alloc' (.cells #[.string t] 9)
        have c0' := h5.cell 0 rfl
        have f0' := h5.frozen 0
        have H5 := Lib.hid h5
        clear h4 h5 hbx HH x1 x2 x3 x4
        go_wp2_with (at_builtin; refine wpList_append_own_at _ rfl (.tmp 28) (.tmp 30) 63 rfl B 9 i0 (.string ByteArray.empty) 1 16 Try.underlying63 hi hz0 hz1 hz2 rfl (by decide) _ _ _ rfl H5.out.up1.own ⟨_, 0, none⟩ 1 1 [.string t] rfl rfl (cell_one_new _ _ _) ?c2 HB1.out HB2.out H5.out.size ?_)
        case c2 => intro u hu; simp at hu; subst hu; rfl
        intro v' w6 ho hgr _ hat
        have h6 := (H5.out.up1.grew ho hgr (hat.imp (fun h => h) (fun h => ⟨_, h, by simp⟩))).up1
        obtain ⟨A2, c2, rfl⟩ := h6.up1.slice
        clear c0 f0 c0' f0'
        have c0 := h6.cell 0 rfl
        have f0 := h6.frozen 0
        have H6 := Lib.hid h6
        clear h6 ho hgr hat H5
        go_wp2_with fail
        go_ret
        refine ⟨rfl, .slice A2 (all.length + 1) c2, ?_⟩
        rw [strs_append, List.length_append]
        exact H6.out.set 0 _

end Go.Proofs.Ytpnnalkihcemhaa.Str
