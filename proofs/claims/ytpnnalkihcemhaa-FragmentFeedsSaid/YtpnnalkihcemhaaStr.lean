/- A sender of lines: what is told of it, what Queue leaves; without a sender or a receiver. -/
import Derived.Test.YtpnnalkihcemhaaMemQ
import Derived.Test.YtpnnalkihcemhaaSame
import Derived.Test.YtpnnalkihcemhaaStep
import Derived.Test.YtpnnalkihcemhaaTake
set_option linter.unusedVariables false
set_option linter.unusedSimpArgs false
namespace Go.Proofs.Ytpnnalkihcemhaa.Str
open Go.Sort Go.RowKit Go.Proofs.Ytpnnalkihcemhaa.Mem Go.Proofs.Ytpnnalkihcemhaa.Bits Go.Proofs.Ytpnnalkihcemhaa.Wr Go.Proofs.Ytpnnalkihcemhaa.Num Go.Proofs.Ytpnnalkihcemhaa.Step Go.Proofs.YtpnnalkihcemhaaW.PrintWords

theorem Holds.belowed {W w w' : World} {B : Nat} {H : List Ent} (h : Holds W B w H) (hb : Below w.heap.size w w') : Holds W B w' H :=
  h.same ⟨hb.os, hb.tape, hb.output, hb.size, fun k hk _ => hb.block k hk⟩

theorem info_str : (Try.prog.info? 9).map (fun i => (i.zero, i.size, i.bytes)) = some (some (.string ByteArray.empty), 1, 16) := by kernel_rfl

def strs (l : List ByteArray) : List Value := l.map Value.string
theorem strs_length (l : List ByteArray) : (strs l).length = l.length := by simp [strs]
theorem strs_append (l m : List ByteArray) : strs (l ++ m) = strs l ++ strs m := by simp [strs]
theorem strs_get (l : List ByteArray) (i : Nat) (t : ByteArray) (h : l[i]? = some t) : (strs l)[i]? = some (.string t) := by simp [strs, h]

/-- A sender at the head of block b: how many are gone, and the lines that wait. -/
def HasS (W : World) (B : Nat) (w : World) (b : Nat) (gone : Int) (l : List ByteArray) (F : List Ent) : Prop :=
  ∃ v, Holds W B w (.st b [.int .u32 gone, v] 65 :: .qu v 9 (strs l) :: F)

theorem sslice {W w : World} {B : Nat} {v : Value} {l : List ByteArray} {F : List Ent} {e : TypeId} (h : Holds W B w (.qu v e (strs l) :: F)) : ∃ A c, v = .slice A l.length c ∧ l.length ≤ c ∧ c ≤ maxLen ∧ (0 < l.length → ∃ g off, A = some ⟨g, off, none⟩) := by
  have := h.qslice
  rwa [strs_length] at this

theorem sline (w : World) (n : Nat) : Calls Try.prog 53 #[.int .i64 (n : Int)] w fun e' w' => e' = .returned (.bool (decide (1 ≤ n ∧ n ≤ 60))) ∧ w' = w := by
  by_cases h1 : 1 ≤ n
  · have t1 : (1 : Int) ≤ (n : Int) := by omega
    by_cases h2 : n ≤ 60
    · have t2 : (n : Int) ≤ 60 := by omega
      have hd : decide (1 ≤ n ∧ n ≤ 60) = true := by simp; omega
      rw [hd]
      clear h1 h2 hd
      go_enter Try.func53, Try.ntmps53
      go_wp2_with fail
      go_ret
      exact ⟨rfl, rfl⟩
    · have t2 : ¬ (n : Int) ≤ 60 := by omega
      have hd : decide (1 ≤ n ∧ n ≤ 60) = false := by simp; omega
      rw [hd]
      clear h1 h2 hd
      go_enter Try.func53, Try.ntmps53
      go_wp2_with fail
      go_ret
      exact ⟨by first | rfl | exact ret_b (by simp; omega), rfl⟩
  · have t1 : ¬ (1 : Int) ≤ (n : Int) := by omega
    have hd : decide (1 ≤ n ∧ n ≤ 60) = false := by simp; omega
    rw [hd]
    obtain rfl : n = 0 := by omega
    clear h1 hd t1
    rw [show ((0 : Nat) : Int) = 0 from rfl]
    go_enter Try.func53, Try.ntmps53
    go_wp2_with fail
    go_ret
    exact ⟨rfl, rfl⟩

def qerr (l : List ByteArray) (t : ByteArray) : Int := if 1 ≤ t.size ∧ t.size ≤ 60 then if l.length = 32 then 7 else 0 else 1
def qnext (l : List ByteArray) (t : ByteArray) : List ByteArray := if qerr l t = 0 then l ++ [t] else l
theorem qnext_le {l : List ByteArray} {t : ByteArray} (h : l.length ≤ 32) : (qnext l t).length ≤ 32 := by
  unfold qnext
  by_cases h1 : qerr l t = 0
  · rw [if_pos h1]
    have h2 : l.length ≠ 32 := by
      intro h2
      unfold qerr at h1
      rw [if_pos h2] at h1
      split at h1 <;> cases h1
    simp; omega
  · rw [if_neg h1]; exact h

set_option maxHeartbeats 1000000 in
theorem squeue (W : World) (B : Nat) (w : World) (b : Nat) (gone : Int) (l : List ByteArray) (F : List Ent) (t : ByteArray) (hS : HasS W B w b gone l F) (hl : l.length ≤ 32) :
    Calls Try.prog 25 #[.pointer (some ⟨b, 0, none⟩), .string t] w fun e' w' => e' = .returned (.int .i64 (qerr l t)) ∧ HasS W B w' b gone (qnext l t) F := by
  obtain ⟨i0, hi, hz0, hz1, hz2⟩ := info_parts info_str
  obtain ⟨v, hH⟩ := hS
  obtain ⟨A, c, rfl, hc, hm, _⟩ := sslice hH.up1
  have c1 := hH.cell 1 rfl
  have f1 := hH.frozen 1
  by_cases hg : 1 ≤ t.size ∧ t.size ≤ 60
  · have hd : decide (1 ≤ t.size ∧ t.size ≤ 60) = true := decide_eq_true hg
    by_cases h32 : l.length = 32
    · have he : qerr l t = 7 := by unfold qerr; rw [if_pos hg, if_pos h32]
      have hn : qnext l t = l := by unfold qnext; rw [if_neg (by rw [he]; decide)]
      rw [he, hn]
      have tb : ((l.length : Int) == 32) = true := beq_iff_eq.2 (by omega)
      have HH := Lib.hid hH
      have HD := Lib.hid hd
      clear hH hd hg h32 he hn hl hc hm
      go_enter Try.func25, Try.ntmps25
      go_wp2_with fail
      refine (sline _ t.size).mono ?_
      rw [HD.out]
      rintro e' w1 ⟨rfl, rfl⟩
      go_wp2_with fail
      go_ret
      exact ⟨rfl, _, HH.out⟩
    · have he : qerr l t = 0 := by unfold qerr; rw [if_pos hg, if_neg h32]
      have hn : qnext l t = l ++ [t] := by unfold qnext; rw [if_pos he]
      rw [he, hn]
      have tb : ((l.length : Int) == 32) = false := beq_eq_false_iff_ne.2 (by omega)
      have hb1 : (strs l).length + 1 ≤ maxLen := by rw [strs_length]; unfold maxLen; omega
      have hb2 : ((strs l).length + 1) * 16 ≤ 140737488355328 := by rw [strs_length]; omega
      have HB1 := Lib.hid hb1
      have HB2 := Lib.hid hb2
      have HH := Lib.hid hH
      have HD := Lib.hid hd
      clear hH hd hg h32 he hn hl hb1 hb2 hc hm
      go_enter Try.func25, Try.ntmps25
      go_wp2_with fail
      refine (sline _ t.size).mono ?_
      rw [HD.out]
      rintro e' w1 ⟨rfl, rfl⟩
      have h1 := HH.out.alloc' (.cells #[.string t] 9)
      have c1' := h1.cell 1 rfl
      have f1' := h1.frozen 1
      have H1 := Lib.hid h1
      clear h1
      go_wp2_with (at_builtin; refine wpList_append_q rfl (.tmp 24) (.tmp 26) 63 rfl B 9 i0 (.string ByteArray.empty) 16 Try.underlying63 hi hz0 hz1 hz2 rfl _ (strs l) rfl H1.out.up1.head ⟨_, 0, none⟩ 1 (.string t) rfl (cell_one_new _ _ _) ?c2 HB1.out HB2.out H1.out.size ?_)
      case c2 => intro u hu; simp at hu; subst hu; rfl
      intro v' w2 ho hg hat
      have h2 := (H1.out.up1.qgrew ho hg (hat.imp (fun h => h) (fun h => h.trans (by simp)))).up1
      obtain ⟨A2, c2, rfl, _⟩ := h2.up1.qslice
      rw [show (strs l ++ [Value.string t]).length = l.length + 1 by rw [List.length_append, strs_length]; rfl] at h2 ⊢
      have c1 := h2.cell 1 rfl
      have f1 := h2.frozen 1
      have H2 := Lib.hid h2
      clear h2 ho hg hat c1' f1' H1 HH
      go_wp2_with fail
      go_ret
      refine ⟨rfl, .slice A2 (l.length + 1) c2, ?_⟩
      rw [strs_append]
      exact H2.out.set 1 _
  · have hd : decide (1 ≤ t.size ∧ t.size ≤ 60) = false := decide_eq_false hg
    have he : qerr l t = 1 := by unfold qerr; rw [if_neg hg]
    have hn : qnext l t = l := by unfold qnext; rw [if_neg (by rw [he]; decide)]
    rw [he, hn]
    have HH := Lib.hid hH
    have HD := Lib.hid hd
    clear hH hd hg he hn hl hc hm
    go_enter Try.func25, Try.ntmps25
    go_wp2_with fail
    refine (sline _ t.size).mono ?_
    rw [HD.out]
    rintro e' w1 ⟨rfl, rfl⟩
    go_wp2_with fail
    go_ret
    exact ⟨rfl, _, HH.out⟩

theorem swaits (W : World) (B : Nat) (w : World) (b : Nat) (gone : Int) (l : List ByteArray) (F : List Ent) (hS : HasS W B w b gone l F) :
    Calls Try.prog 34 #[.pointer (some ⟨b, 0, none⟩)] w fun e' w' => e' = .returned (.int .i64 (l.length : Int)) ∧ w' = w := by
  obtain ⟨v, hH⟩ := hS
  obtain ⟨A, c, rfl, hc, hm, _⟩ := sslice hH.up1
  have c1 := hH.cell 1 rfl
  clear hH
  go_enter Try.func34, Try.ntmps34
  go_wp2_with fail
  go_ret
  exact ⟨rfl, rfl⟩

theorem swants (W : World) (B : Nat) (w : World) (b : Nat) (given : Int) (e : TypeId) (F : List Ent) (hH : Holds W B w (.st b [.int .u32 given] e :: F)) (h0 : 0 ≤ given) (h1 : given < 4294967295) :
    Calls Try.prog 40 #[.pointer (some ⟨b, 0, none⟩)] w fun e' w' => e' = .returned (.int .u32 (given + 1)) ∧ w' = w := by
  have c1 := hH.cell 0 rfl
  have tw : IntKind.u32.wrap (given + 1) = given + 1 := by rw [wrap_u32]; omega
  have tw2 : (given + 1) % 4294967296 = given + 1 := by omega
  clear hH
  go_enter Try.func40, Try.ntmps40
  go_wp2_with fail
  go_ret
  exact ⟨rfl, rfl⟩

/-! Without a sender, without a receiver. -/
theorem waits_nil (w : World) : Calls Try.prog 34 #[.pointer none] w fun e' w' => e' = .returned (.int .i64 0) ∧ w' = w := by
  go_enter Try.func34, Try.ntmps34
  go_wp2_with fail
  go_ret
  exact ⟨rfl, rfl⟩
theorem wants_nil (w : World) : Calls Try.prog 40 #[.pointer none] w fun e' w' => e' = .returned (.int .u32 0) ∧ w' = w := by
  go_enter Try.func40, Try.ntmps40
  go_wp2_with fail
  go_ret
  exact ⟨rfl, rfl⟩
theorem queue_nil (w : World) (t : ByteArray) : Calls Try.prog 25 #[.pointer none, .string t] w fun e' w' => e' = .returned (.int .i64 6) ∧ w' = w := by
  go_enter Try.func25, Try.ntmps25
  go_wp2_with fail
  go_ret
  exact ⟨rfl, rfl⟩
set_option maxRecDepth 100000 in
theorem take_nil (w : World) (v : Value) : Calls Try.prog 35 #[.pointer none, v] w fun e' w' => e' = .returned (.tuple #[.slice none 0 0, .bool false]) ∧ w' = w := by
  go_enter Try.func35, Try.ntmps35
  go_wp2_with fail
  exact bodyPost_ret (results_tmp2 rfl _ _ _) rfl ⟨rfl, rfl⟩
set_option maxRecDepth 100000 in
theorem confirm_nil (w : World) (n : Int) : Calls Try.prog 32 #[.pointer none, .int .u32 n] w fun e' w' => e' = .returned (.int .i64 0) ∧ Drawn0 w w' := by
  go_enter Try.func32, Try.ntmps32
  go_wp2_with fail
  go_quiet (fail)
  go_wp2_with fail
  go_ret
  exact ⟨rfl, by first | exact ⟨⟨_, rfl⟩⟩ | exact ((Drawn0.refl _).step _).step _⟩
theorem put_nil (W : World) (B : Nat) (w : World) (b : Nat) (e : TypeId) (L : List Bool) (F : List Ent) (hw : HasW W B w b e L F) (hl : L.length + 64 ≤ 1000000000) :
    Calls Try.prog 27 #[.pointer none, .pointer (some ⟨b, 0, none⟩)] w fun e' w' => e' = .returned (.tuple #[]) ∧ HasW W B w' b e (L ++ bitsOf 0 3) F := by
  have hp := put W B w b e L F 0 3 hw (by decide) (by decide) (by decide) (by decide) hl
  have HP := Lib.hid hp
  clear hp
  go_enter Try.func27, Try.ntmps27
  go_wp2_with fail
  refine (waits_nil _).mono ?_
  rintro e' w1 ⟨rfl, rfl⟩
  go_wp2_with fail
  refine HP.out.mono ?_
  rintro e' w2 ⟨rfl, h2⟩
  have H2 := Lib.hid h2
  clear h2
  go_wp2_with fail
  exact bodyPost_ret (v := .tuple #[]) (results_none rfl _ _ _) rfl ⟨rfl, H2.out⟩

set_option maxHeartbeats 1000000 in
theorem awake16 (w : World) : Calls Try.prog 24 #[] w fun e' w' => e' = .returned (.bool true) ∧ Below w.heap.size w w' := by
  have h1 := (Holds.start w).alloc [.int .u32 0, .slice none 0 0] 65
  have h2 := h1.alloc [.int .u32 0] 85
  have hs : (w.alloc (.cells [.int .u32 0, .slice none 0 0].toArray 65)).heap.size = w.heap.size + 1 := by simp
  rw [hs] at h2
  have h3 : HasS w w.heap.size _ w.heap.size 0 [] [.st (w.heap.size + 1) [.int .u32 0] 85] := ⟨.slice none 0 0, ((h2.nilqu 9).up2).perm (List.Perm.cons _ (List.Perm.refl _))⟩
  have hq := squeue _ _ _ _ 0 [] _ ⟨#[97]⟩ h3 (by decide)
  have HQ := Lib.hid hq
  clear h1 h2 hs h3 hq
  go_enter Try.func24, Try.ntmps24
  go_wp2_with fail
  refine HQ.out.mono ?_
  rintro e' w2 ⟨rfl, h2⟩
  rw [show qerr [] ⟨#[97]⟩ = 0 by decide]
  rw [show qnext [] ⟨#[97]⟩ = [⟨#[97]⟩] by rfl] at h2
  have H2 := Lib.hid h2
  clear h2 HQ
  go_wp2_with fail
  refine (swaits _ _ _ _ _ _ _ H2.out).mono ?_
  rintro e' w3 ⟨rfl, rfl⟩
  obtain ⟨v2, hv2⟩ := H2.out
  have hw := swants w w.heap.size w3 (w.heap.size + 1) 0 85 _ hv2.up2 (by decide) (by decide)
  clear hv2
  have HW := Lib.hid hw
  clear hw
  go_wp2_with fail
  refine HW.out.mono ?_
  rintro e' w4 ⟨rfl, rfl⟩
  go_wp2_with fail
  go_ret
  obtain ⟨v, h⟩ := H2.out
  exact ⟨rfl, h.below⟩

end Go.Proofs.Ytpnnalkihcemhaa.Str
