/- The writer of bits: what is told of it; slices.Clone of bytes. -/
import Derived.Test.YtpnnalkihcemhaaPut
set_option linter.unusedVariables false
set_option linter.unusedSimpArgs false
namespace Go.Proofs.Ytpnnalkihcemhaa.Wr
open Go.RowKit Go.Proofs.Ytpnnalkihcemhaa.Mem Go.Proofs.Ytpnnalkihcemhaa.Bits Go.Proofs.Ytpnnalkihcemhaa.Num Go.Proofs.YtpnnalkihcemhaaW.PrintWords

set_option maxHeartbeats 1000000 in
theorem clone (W : World) (B : Nat) (w : World) (F : List Ent) (v : Value) (n : Nat) (cs : List Value) (hH : Holds W B w F) (hr : Rd w v n cs) (hl : cs.length = n) (h1 : ∀ u, u ∈ cs → u.oneCell' = true) (hn : n ≤ 1000000000) :
    Calls Try.prog 49 #[v] w fun e' w' => ∃ v', e' = .returned v' ∧ Holds W B w' (.rw v' 5 1 n cs :: F) := by
  obtain ⟨i0, hi, hz0, hz1, hz2⟩ := info_parts info_u8
  rcases hr with ⟨rfl, rfl, rfl⟩ | ⟨ad, c, rfl, hc, hm, hr⟩
  · go_enter Try.func49, Try.ntmps49
    have hnil := Lib.run_eql_slice_nil (P := Try.prog) (t := 25)
    go_wp2
    go_ret
    exact ⟨_, rfl, hH.nilrow _ _⟩
  · go_enter Try.func49, Try.ntmps49
    have hnil := Lib.run_eql_slice_nil (P := Try.prog) (t := 25)
    have h0 := hH.mkrow [] 5 1 0 rfl (Nat.zero_le _)
    have hr2 : ∀ j u, cs[j]? = some u → (w.alloc (.cells #[] 5)).cell? (ad.add j) = some u := fun j u hu => by
      rw [World.cell?_alloc_lt _ _ _ (World.block_lt_of_cell? w _ (hr j u hu))]; exact hr j u hu
    have H0 := Lib.hid h0
    have HR := Lib.hid hr2
    clear h0 hr2 hr
    go_wp2_with (at_builtin; refine wpList_append_own_at _ rfl (.tmp 5) (.tmp 6) 25 rfl B 5 i0 (.int .u8 0) 1 1 Try.underlying25 hi hz0 hz1 hz2 rfl (by decide) _ _ _ rfl H0.out.own ad n c cs rfl (by simpa using hl) HR.out h1 ?c3 ?c4 ?c5 ?_)
    case c3 => unfold maxLen; omega
    case c4 => omega
    case c5 => have := H0.out.size; exact this
    intro v' w1 ho hg _ hat
    have h2 := H0.out.grew ho hg (hat.imp id (fun h => ⟨_, h, by simp⟩))
    try simp only [Nat.zero_add, List.nil_append] at h2
    clear ho hg hat
    go_wp2
    go_ret
    exact ⟨_, rfl, h2⟩

theorem count (W : World) (B : Nat) (w : World) (b : Nat) (e : TypeId) (l : List Bool) (F : List Ent) (hw : HasW W B w b e l F) :
    Calls Try.prog 31 #[.pointer (some ⟨b, 0, none⟩)] w fun e' w' => e' = .returned (.int .i64 (l.length : Int)) ∧ w = w' := by
  obtain ⟨v, hH⟩ := hw
  have c1 := hH.cell 1 (v := .int .i64 (l.length : Int)) rfl
  go_enter Try.func31, Try.ntmps31
  go_wp2
  go_ret
  exact ⟨rfl, rfl⟩

theorem bytes (W : World) (B : Nat) (w : World) (b : Nat) (e : TypeId) (l : List Bool) (F : List Ent) (hw : HasW W B w b e l F) (hl : l.length ≤ 1000000000) :
    Calls Try.prog 29 #[.pointer (some ⟨b, 0, none⟩)] w fun e' w' => ∃ v', e' = .returned v' ∧ HasW W B w' b e l (.rw v' 5 1 (nby l) (nums .u8 (pack l)) :: F) := by
  obtain ⟨v, hH⟩ := hw
  obtain ⟨A, c, rfl⟩ := hH.up1.slice
  have c0 := hH.cell 0 (v := .slice A (nby l) c) rfl
  have HN := Lib.hid (show nby l ≤ 1000000000 by unfold nby; omega)
  go_enter Try.func29, Try.ntmps29
  go_wp2_with fail
  refine (clone W B _ _ _ (nby l) (nums .u8 (pack l)) hH hH.up1.rd (by rw [nums_length, pack_length]) (by intro u hu; simp [nums] at hu; obtain ⟨x, _, rfl⟩ := hu; rfl) HN.out).mono ?_
  rintro e' w1 ⟨v', rfl, h1⟩
  go_wp2
  go_ret
  exact ⟨_, rfl, _, h1.up2.up2⟩

/-- What is no count of bits is not put. -/
theorem put_not (W : World) (B : Nat) (w : World) (b : Nat) (e : TypeId) (l : List Bool) (F : List Ent) (x n : Int) (hw : HasW W B w b e l F) (hn : n < 0 ∨ 64 < n) :
    Calls Try.prog 42 #[.pointer (some ⟨b, 0, none⟩), .int .u64 x, .int .i64 n] w fun e' w' => e' = .returned (.tuple #[]) ∧ HasW W B w' b e l F := by
  rcases hn with hn | hn
  · have hd : decide (n < 0) = true := by simpa using hn
    go_enter Try.func42, Try.ntmps42
    go_wp2
    exact bodyPost_ret (v := .tuple #[]) (results_none rfl _ _ _) rfl ⟨rfl, hw⟩
  · have hn0 : decide (n < 0) = false := by simp; omega
    have hn1 : decide (64 < n) = true := by simpa using hn
    go_enter Try.func42, Try.ntmps42
    go_wp2
    exact bodyPost_ret (v := .tuple #[]) (results_none rfl _ _ _) rfl ⟨rfl, hw⟩

/-- A writer is made: a block of a nil slice and no count. -/
theorem fresh {W : World} {B : Nat} {w : World} {F : List Ent} (hH : Holds W B w F) (e : TypeId) : HasW W B (w.alloc (.cells #[.slice none 0 0, .int .i64 0] e)) w.heap.size e [] F :=
  ⟨.slice none 0 0, ((hH.alloc [.slice none 0 0, .int .i64 0] e).nilrow 5 1).up1⟩

end Go.Proofs.Ytpnnalkihcemhaa.Wr
