/- A sender lets lines go: Confirm. -/
import Derived.Test.YtpnnalkihcemhaaStrPut
set_option linter.unusedVariables false
set_option linter.unusedSimpArgs false
namespace Go.Proofs.Ytpnnalkihcemhaa.Str
open Go.Sort Go.RowKit Go.Proofs.Ytpnnalkihcemhaa.Mem Go.Proofs.Ytpnnalkihcemhaa.Bits Go.Proofs.Ytpnnalkihcemhaa.Wr Go.Proofs.Ytpnnalkihcemhaa.Num Go.Proofs.Ytpnnalkihcemhaa.Step Go.Proofs.YtpnnalkihcemhaaW.PrintWords

def confN (gone : Int) (len : Nat) (wants : Int) : Nat := if gone + 1 < wants ∧ wants ≤ gone + (len : Int) + 1 then (wants - gone - 1).toNat else 0

theorem conf_facts {gone wants : Int} {len : Nat} (h0 : 0 ≤ gone) (h1 : gone ≤ 100000) (hl : len ≤ 32) (w0 : 0 ≤ wants) (w1 : wants < 4294967296) :
    IntKind.u64.wrap wants = wants ∧ IntKind.u64.wrap gone = gone ∧ IntKind.u64.wrap (gone + 1) = gone + 1 ∧ IntKind.u64.wrap (len : Int) = (len : Int) ∧ IntKind.u64.wrap (gone + (len : Int)) = gone + (len : Int) ∧ IntKind.u64.wrap (gone + (len : Int) + 1) = gone + (len : Int) + 1 ∧
      wants % 18446744073709551616 = wants ∧ gone % 18446744073709551616 = gone ∧ (gone + 1) % 18446744073709551616 = gone + 1 ∧ (len : Int) % 18446744073709551616 = (len : Int) ∧ (gone + (len : Int)) % 18446744073709551616 = gone + (len : Int) ∧ (gone + (len : Int) + 1) % 18446744073709551616 = gone + (len : Int) + 1 := by
  simp only [wrap_u64]; omega

theorem conf_n {gone wants : Int} {len : Nat} (h0 : 0 ≤ gone) (h1 : gone ≤ 100000) (hl : len ≤ 32) (hw : gone + 1 < wants) (hw2 : wants ≤ gone + (len : Int) + 1) : ∃ n : Nat, (wants - gone - 1).toNat = n ∧ 0 < n ∧ n ≤ len ∧ wants - gone - 1 = (n : Int) ∧
    IntKind.u32.wrap (wants - gone) = wants - gone ∧ IntKind.u32.wrap (wants - gone - 1) = (n : Int) ∧ (wants - gone) % 4294967296 = wants - gone ∧ (wants - gone - 1) % 4294967296 = (n : Int) ∧ IntKind.i64.wrap (n : Int) = (n : Int) ∧ IntKind.u32.wrap (n : Int) = (n : Int) ∧ (n : Int) % 4294967296 = (n : Int) ∧
      IntKind.u32.wrap (gone + (n : Int)) = gone + (n : Int) ∧ (gone + (n : Int)) % 4294967296 = gone + (n : Int) := by
  refine ⟨(wants - gone - 1).toNat, rfl, ?_⟩
  simp only [wrap_u32, wrap_i64]
  unfold wrap64
  omega

theorem scut {W w : World} {B : Nat} {F : List Ent} {e : TypeId} {l : List ByteArray} {g off cap n : Nat} (h : Holds W B w (.qu (.slice (some ⟨g, off, none⟩) l.length cap) e (strs l) :: F)) (hn : n ≤ l.length) (hc : n < cap) :
    Holds W B w (.qu (.slice (some ⟨g, off + n, none⟩) (l.length - n) (cap - n)) e (strs (l.drop n)) :: F) := by
  have h1 := Holds.qcut (xs := strs l) (n := n) (by rw [strs_length]; exact h) (by rw [strs_length]; exact hn) hc
  rw [strs_length] at h1
  rwa [show (strs l).drop n = strs (l.drop n) by simp [strs]] at h1
theorem scut_all {W w : World} {B : Nat} {F : List Ent} {e : TypeId} {l : List ByteArray} {g off cap : Nat} (h : Holds W B w (.qu (.slice (some ⟨g, off, none⟩) l.length cap) e (strs l) :: F)) (hc : cap = l.length) :
    Holds W B w (.qu (.slice (some ⟨g, off, none⟩) 0 0) e (strs (l.drop cap)) :: F) := by
  have h1 := Holds.qcut_all (xs := strs l) (off' := off) (by rw [strs_length]; exact h) (by rw [strs_length]; exact hc) (Nat.le_refl _)
  rw [strs_length] at h1
  rwa [show (strs l).drop l.length = strs (l.drop cap) by rw [hc]; simp [strs]] at h1

set_option maxHeartbeats 2000000 in
theorem sconfirm_some (W : World) (B : Nat) (w : World) (b : Nat) (gone wants : Int) (l : List ByteArray) (F : List Ent) (hS : HasS W B w b gone l F) (h0 : 0 ≤ gone) (h1 : gone ≤ 100000) (hl : l.length ≤ 32) (w0 : 0 ≤ wants) (w1 : wants < 4294967296)
    (hw : gone + 1 < wants) (hw2 : wants ≤ gone + (l.length : Int) + 1) :
    Calls Try.prog 32 #[.pointer (some ⟨b, 0, none⟩), .int .u32 wants] w fun e' w' => e' = .returned (.int .i64 (wants - gone - 1)) ∧ HasS W B w' b (wants - 1) (l.drop (wants - gone - 1).toNat) F := by
  obtain ⟨v, hH⟩ := hS
  obtain ⟨A, c, rfl, hc, hm, hA⟩ := sslice hH.up1
  obtain ⟨g, off, rfl⟩ := hA (by omega)
  obtain ⟨n, hn, hn0, hnl, y1, y2, y3, y4, y5, y6, y7, y8, y9, y10⟩ := conf_n h0 h1 hl hw hw2
  obtain ⟨x1, x2, x3, x4, x5, x6, x7, x8, x9, x10, x11, x12⟩ := conf_facts h0 h1 hl w0 w1
  have t1 : decide (wants ≤ gone + 1) = false := by simp; omega
  have t2 : decide (gone + (l.length : Int) + 1 < wants) = false := by simp; omega
  have c0 := hH.cell 0 rfl
  have c1 := hH.cell 1 rfl
  have E0 := cell_regrown c0
  have E1 := cell_regrown c1
  have HH := Lib.hid hH
  rw [hn]
  have hgn : wants - 1 = gone + (n : Int) := by omega
  rw [y1, hgn]
  have HNL := Lib.hid hnl
  have n0 : (0 : Int) ≤ (n : Int) := by omega
  have n1 : (n : Int) ≤ (l.length : Int) := by omega
  have n2 : (n : Int) ≤ (c : Int) := by omega
  have HC := Lib.hid (And.intro hc hm)
  clear hH hn hn0 hnl h1 hl hw hw2 w1 hc hm hA hgn
  go_enter Try.func32, Try.ntmps32
  go_wp2_with fail
  refine wp_region_quiet_below (by kernel_rfl) (by kernel_rfl) ?_
  repeat (go_big_quiet_step (fail))
  refine wpQuiet_nil ?_
  intro _ hw'
  obtain ⟨⟨dq, osq⟩, hw''⟩ := hw'
  subst hw''
  have hbx := below_regrown w dq osq
  clear E0 E1 c0 c1
  generalize grow (redrawn w dq) osq = w4 at *
  have h4 := Holds.belowed HH.out hbx
  have c0 := h4.cell 0 rfl
  have c1 := h4.cell 1 rfl
  have f0 := h4.frozen 0
  have f1 := h4.frozen 1
  have H4 := Lib.hid h4
  clear h4 hbx HH
  go_wp2_with fail
  by_cases hcn : c = n
  · have hcl : c = l.length := by have := HC.out.1; have := HNL.out; omega
    have hl0 : l.length - c = 0 := by omega
    have HCL := Lib.hid hcl
    subst hcn
    clear hcl
    go_region
    all_goals
      go_wp2_with fail
      go_ret
      have h5 := (((H4.out.set 1 (.slice (some ⟨g, off, none⟩) 0 0)).set 0 (.int .u32 (gone + (c : Int)))).drew).up1
      have h6 := (scut_all h5 HCL.out).up1
      exact ⟨rfl, _, h6⟩
  · have hcn2 : n < c := by have := HC.out.1; have := HNL.out; omega
    have HCN := Lib.hid hcn2
    clear hcn2
    go_region
    all_goals
      go_wp2_with fail
      go_ret
      have h5 := (((H4.out.set 1 (.slice (some ⟨g, off + n, none⟩) (l.length - n) (c - n))).set 0 (.int .u32 (gone + (n : Int)))).drew).up1
      have h6 := (scut h5 HNL.out HCN.out).up1
      exact ⟨rfl, _, h6⟩

set_option maxHeartbeats 2000000 in
theorem sconfirm_none (W : World) (B : Nat) (w : World) (b : Nat) (gone wants : Int) (l : List ByteArray) (F : List Ent) (hS : HasS W B w b gone l F) (h0 : 0 ≤ gone) (h1 : gone ≤ 100000) (hl : l.length ≤ 32) (w0 : 0 ≤ wants) (w1 : wants < 4294967296)
    (hw : ¬ (gone + 1 < wants ∧ wants ≤ gone + (l.length : Int) + 1)) :
    Calls Try.prog 32 #[.pointer (some ⟨b, 0, none⟩), .int .u32 wants] w fun e' w' => e' = .returned (.int .i64 0) ∧ HasS W B w' b gone l F := by
  obtain ⟨v, hH⟩ := hS
  obtain ⟨A, c, rfl, hc, hm, hA⟩ := sslice hH.up1
  obtain ⟨x1, x2, x3, x4, x5, x6, x7, x8, x9, x10, x11, x12⟩ := conf_facts h0 h1 hl w0 w1
  have c0 := hH.cell 0 rfl
  have c1 := hH.cell 1 rfl
  have E0 := cell_regrown c0
  have E1 := cell_regrown c1
  have HH := Lib.hid hH
  clear hH h1 hl w1 hc hm hA c0 c1
  by_cases ha : wants ≤ gone + 1
  · have t1 : decide (wants ≤ gone + 1) = true := by simpa using ha
    clear hw ha
    go_enter Try.func32, Try.ntmps32
    go_wp2_with fail
    refine wp_region_quiet_below (by kernel_rfl) (by kernel_rfl) ?_
    repeat (go_big_quiet_step (fail))
    refine wpQuiet_nil ?_
    intro _ hw'
    obtain ⟨⟨dq, osq⟩, hw''⟩ := hw'
    subst hw''
    have hbx := below_regrown w dq osq
    clear E0 E1
    generalize grow (redrawn w dq) osq = w4 at *
    have H4 := Lib.hid (Holds.belowed HH.out hbx)
    clear hbx HH
    go_wp2_with fail
    go_ret
    exact ⟨rfl, _, H4.out⟩
  · have t1 : decide (wants ≤ gone + 1) = false := by simpa using ha
    have t2 : decide (gone + (l.length : Int) + 1 < wants) = true := by simp; omega
    clear hw ha
    go_enter Try.func32, Try.ntmps32
    go_wp2_with fail
    refine wp_region_quiet_below (by kernel_rfl) (by kernel_rfl) ?_
    repeat (go_big_quiet_step (fail))
    refine wpQuiet_nil ?_
    intro _ hw'
    obtain ⟨⟨dq, osq⟩, hw''⟩ := hw'
    subst hw''
    have hbx := below_regrown w dq osq
    clear E0 E1
    generalize grow (redrawn w dq) osq = w4 at *
    have H4 := Lib.hid (Holds.belowed HH.out hbx)
    clear hbx HH
    go_wp2_with fail
    go_ret
    exact ⟨rfl, _, H4.out⟩

theorem sconfirm (W : World) (B : Nat) (w : World) (b : Nat) (gone wants : Int) (l : List ByteArray) (F : List Ent) (hS : HasS W B w b gone l F) (h0 : 0 ≤ gone) (h1 : gone ≤ 100000) (hl : l.length ≤ 32) (w0 : 0 ≤ wants) (w1 : wants < 4294967296) :
    Calls Try.prog 32 #[.pointer (some ⟨b, 0, none⟩), .int .u32 wants] w fun e' w' => e' = .returned (.int .i64 (confN gone l.length wants : Nat)) ∧ HasS W B w' b (gone + (confN gone l.length wants : Nat)) (l.drop (confN gone l.length wants)) F := by
  by_cases h : gone + 1 < wants ∧ wants ≤ gone + (l.length : Int) + 1
  · have e : confN gone l.length wants = (wants - gone - 1).toNat := if_pos h
    have e2 : ((wants - gone - 1).toNat : Int) = wants - gone - 1 := by omega
    rw [e, e2, show gone + (wants - gone - 1) = wants - 1 by omega]
    exact sconfirm_some W B w b gone wants l F hS h0 h1 hl w0 w1 h.1 h.2
  · have e : confN gone l.length wants = 0 := if_neg h
    rw [e]
    have := sconfirm_none W B w b gone wants l F hS h0 h1 hl w0 w1 h
    simpa using this

end Go.Proofs.Ytpnnalkihcemhaa.Str
