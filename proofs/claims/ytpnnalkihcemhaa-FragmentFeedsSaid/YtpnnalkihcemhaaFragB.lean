/- A message's bytes, by the program; how many parts; two lists of parts. -/
import Derived.Test.YtpnnalkihcemhaaFragP
set_option linter.unusedVariables false
set_option linter.unusedSimpArgs false
namespace Go.Proofs.Ytpnnalkihcemhaa.Frag
open Go.Sort Go.RowKit Go.Proofs.Ytpnnalkihcemhaa.Mem Go.Proofs.Ytpnnalkihcemhaa.Bits Go.Proofs.Ytpnnalkihcemhaa.Wr Go.Proofs.Ytpnnalkihcemhaa.Num Go.Proofs.Ytpnnalkihcemhaa.Step Go.Proofs.YtpnnalkihcemhaaW.PrintWords

set_option maxHeartbeats 1000000 in
theorem mbytes (w : World) (idn size x : Int) (hs0 : 0 ≤ size) (hs1 : size < 65536) (hx0 : 0 ≤ x) (hx1 : x < 256) :
    Calls Try.prog 16 #[.agg #[.int .u16 idn, .int .u16 size, .int .u8 x]] w fun e' w' => ∃ v', e' = .returned v' ∧ Holds w w.heap.size w' (.rw v' 5 1 (msgB size x).length (nums .u8 (msgB size x)) :: []) := by
  obtain ⟨i0, hi, hz0, hz1, hz2⟩ := info_parts info_u8
  obtain ⟨n, hn⟩ : ∃ n : Nat, size % 4200 = (n : Int) := ⟨(size % 4200).toNat, by omega⟩
  have hlen : (msgB size x).length = n := by rw [msgB_length, hn]; rfl
  have hnm : n < 4200 := by omega
  have HN := Lib.hid hn
  have HNM := Lib.hid hnm
  have HL := Lib.hid hlen
  have H0 := Lib.hid (((Holds.start w).alloc [.int .u16 idn, .int .u16 size, .int .u8 x] 24).nilrow 5 1)
  have tn : IntKind.i64.wrap (n : Int) = (n : Int) := by rw [wrap_i64]; unfold wrap64; omega
  clear hnm hlen
  go_enter Try.func16, Try.ntmps16
  go_wp2_with fail
  go_loopw [3, 4] (fun t i wr => ∃ k : Nat, k ≤ n ∧ i = .int .i64 k ∧ Holds w w.heap.size wr (.rw t 5 1 k (nums .u8 ((msgB size x).take k)) :: .st w.heap.size [.int .u16 idn, .int .u16 size, .int .u8 x] 24 :: []))
    (fun _ i _ => n - (intOf i).toNat)
  case atStart => exact ⟨0, Nat.zero_le _, rfl, by simpa [nums] using H0.out⟩
  case round =>
    obtain ⟨k, hk, rfl, hH⟩ := hrel
    clear H0
    obtain ⟨A, c, rfl⟩ := hH.slice
    have c1 := hH.up1.cell 1 (v := .int .u16 size) rfl
    have c2 := hH.up1.cell 2 (v := .int .u8 x) rfl
    by_cases hkn : k < n
    · have hown := hH.own
      have hsz := hH.size
      have HH := Lib.hid hH
      have HTS := Lib.hid (succ_len k (show k < maxLen by have := HNM.out; unfold maxLen; omega))
      have tz : (x + (k : Int) % 251 % 256) % 256 = (x + (k : Int) % 251) % 256 := by omega
      clear hH
      go_wp2_with (at_builtin; refine wpList_append_own_at _ rfl (.tmp 13) (.tmp 20) 25 rfl w.heap.size 5 i0 (.int .u8 0) 1 1 Try.underlying25 hi hz0 hz1 hz2 rfl (by decide) _ _ _ rfl (hown.alloc _) ⟨wr.heap.size, 0, none⟩ 1 1 [_] rfl rfl (cell_one_new _ _ _) ?c2 ?c3 ?c4 ?c5 ?_)
      case c2 => intro u hu; simp at hu; subst hu; rfl
      case c3 => have := HNM.out; unfold maxLen; omega
      case c4 => have := HNM.out; omega
      case c5 => simp; omega
      intro v8 w8 ho hg _ hat
      have h8 := (HH.out.alloc' _).grew ho hg (hat.imp id (fun h => ⟨_, h, by simp⟩))
      clear ho hg hat hown c1 c2
      have H8 := Lib.hid h8
      clear h8 HH
      go_wp2_with fail
      try rw [HTS.out]
      refine ⟨⟨k + 1, by omega, cast_succ k, ?_⟩, succ_less hkn⟩
      rw [msgB_succ size x k (by have := HN.out; omega), nums_append]
      exact H8.out
    · obtain rfl : k = n := by omega
      have HH := Lib.hid hH
      clear hH
      go_wp2_with fail
      go_ret
      have h8 := HH.out.up1.tail
      rw [List.take_of_length_le (by have := HL.out; omega)] at h8
      refine ⟨_, rfl, ?_⟩
      rw [HL.out]
      exact h8

theorem fcount (w : World) (n : Nat) (hn : n ≤ 5000) : Calls Try.prog 41 #[.int .i64 n] w fun e' w' => e' = .returned (.int .i64 (cnt n : Nat)) ∧ w' = w := by
  have h1 : wrap64 (wrap64 ((n : Int) + 300) - 1) = ((n + 299 : Nat) : Int) := by unfold wrap64; omega
  have h2 : wrap64 (((n + 299 : Nat) : Int) / 300) = ((cnt n : Nat) : Int) := by unfold wrap64 cnt; omega
  go_enter Try.func41, Try.ntmps41
  go_wp2_with fail
  go_ret
  refine ⟨?_, rfl⟩
  show Ending.returned (.int .i64 (((n : Int) + 300 - 1) / 300)) = _
  exact ret_i (by unfold cnt; omega)

set_option maxHeartbeats 1000000 in
/-- A list is the same as itself. -/
theorem lsame (w : World) (v v' : Value) (L : List (List Int)) (h1 : RdS w v L) (h2 : RdS w v' L) :
    Calls Try.prog 18 #[v, v'] w fun e' w' => e' = .returned (.bool true) ∧ Below w.heap.size w w' := by
  obtain ⟨A, c, rfl, hc, hm, hr⟩ := h1.form
  obtain ⟨A', c', rfl, hc', hm', hr'⟩ := h2.form
  have HR := Lib.hid hr
  have HR' := Lib.hid hr'
  have hml : L.length ≤ maxLen := by omega
  have HML := Lib.hid hml
  clear hr hr' h1 h2 hm hm' hml
  have tb : ((L.length : Int) != (L.length : Int)) = false := by simp
  go_enter Try.func18, Try.ntmps18
  go_wp2_with fail
  go_loopw [5] (fun i wr => ∃ k : Nat, k ≤ L.length ∧ i = .int .i64 k ∧ Below w.heap.size w wr) (fun i _ => L.length - (intOf i).toNat)
  case atStart => exact ⟨0, Nat.zero_le _, rfl, Below.refl _ _⟩
  case round =>
    obtain ⟨k, hk, rfl, hb⟩ := hrel
    by_cases hkn : k < L.length
    · obtain ⟨bs, hbs⟩ : ∃ bs, L[k]? = some bs := ⟨_, List.getElem?_eq_getElem hkn⟩
      obtain ⟨b, off, A1, c1, rfl, hlt, hl1, hm1, d1, r1⟩ := HR.out k bs hbs
      obtain ⟨b', off', A2, c2, rfl, hlt', hl2, hm2, d2, r2⟩ := HR'.out k bs hbs
      have E1 := cell_regrown ((hb.cell (p := ⟨b, off + k, none⟩) hlt).trans d1)
      have E2 := cell_regrown ((hb.cell (p := ⟨b', off' + k, none⟩) hlt').trans d2)
      have HC : Hid (∀ d os, Calls Try.prog 21 #[.slice A1 bs.length c1, .slice A2 bs.length c2] (grow (redrawn wr d) os) fun e w'' => e = .returned (.bool true) ∧ ∃ p : Regrown, w'' = grow (redrawn wr p.d) p.os) := fun d os => Calls.regrown_of (by
        have hbb := hb.trans ((below_regrown wr d os).mono hb.size)
        have := same (grow (redrawn wr d) os) _ _ bs bs (r1.below hbb) (r2.below hbb)
        rw [decide_eq_true rfl] at this
        exact this.mono fun _ _ h => ⟨h.1, h.2.below⟩)
      have k0 : (0 : Int) ≤ (k : Int) := by omega
      have k1 : (k : Int) < (L.length : Int) := by omega
      have HTS := Lib.hid (succ_len k (show k < maxLen by have := HML.out; omega))
      clear d1 d2 r1 r2 hbs
      go_wp2_with fail
      refine wp_region_quiet_below (by kernel_rfl) (by kernel_rfl) ?_
      repeat (go_big_quiet_step ((go_at_call 21; with_reducible exact HC.out _ _)))
      refine wpQuiet_nil ?_
      intro _ hw'
      obtain ⟨⟨dq, osq⟩, hw''⟩ := hw'
      subst hw''
      have hbx := below_regrown wr dq osq
      clear E1 E2
      generalize grow (redrawn wr dq) osq = w4 at *
      have hbw : Below w.heap.size w w4 := hb.trans (hbx.mono hb.size)
      go_wp2_with fail
      try rw [HTS.out]
      exact ⟨⟨k + 1, by omega, cast_succ k, hbw⟩, succ_less hkn⟩
    · obtain rfl : k = L.length := by omega
      go_wp2_with fail
      go_ret
      exact ⟨rfl, hb⟩

end Go.Proofs.Ytpnnalkihcemhaa.Frag
