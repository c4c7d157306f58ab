/- Two lists of lines that are one; a bundle just sent; what came. -/
import Derived.Test.YtpnnalkihcemhaaTwo
import Derived.Lib.QuietBelow
import Derived.BigQuiet
set_option linter.unusedVariables false
set_option linter.unusedSimpArgs false
namespace Go.Proofs.Ytpnnalkihcemhaa.Str
open Go.Sort Go.RowKit Go.Deep Go.WideShapes Go.ChangeShapes Go.Proofs.Ytpnnalkihcemhaa.Mem Go.Proofs.Ytpnnalkihcemhaa.Open Go.Proofs.Ytpnnalkihcemhaa.Bits Go.Proofs.Ytpnnalkihcemhaa.Wr Go.Proofs.Ytpnnalkihcemhaa.Num Go.Proofs.Ytpnnalkihcemhaa.Step Go.Proofs.YtpnnalkihcemhaaW.PrintWords

set_option maxHeartbeats 1000000 in
theorem ssame (w : World) (v v' : Value) (l : List ByteArray) (h1 : Rd w v l.length (strs l)) (h2 : Rd w v' l.length (strs l)) (hm : l.length ≤ 1000) :
    Calls Try.prog 39 #[v, v'] w fun e' w' => e' = .returned (.bool true) ∧ Below w.heap.size w w' := by
  obtain ⟨A, c, rfl, hc, hmx, hr⟩ := Rd.form h1 (strs_length _)
  obtain ⟨A', c', rfl, hc', hmx', hr'⟩ := Rd.form h2 (strs_length _)
  have HR := Lib.hid hr
  have HR' := Lib.hid hr'
  have HML := Lib.hid hm
  clear hr hr' h1 h2 hmx hmx' hm
  have tb : ((l.length : Int) != (l.length : Int)) = false := by simp
  go_enter Try.func39, Try.ntmps39
  go_wp2_with fail
  go_loopw [5] (fun i wr => ∃ k : Nat, k ≤ l.length ∧ i = .int .i64 k ∧ Below w.heap.size w wr) (fun i _ => l.length - (intOf i).toNat)
  case atStart => exact ⟨0, Nat.zero_le _, rfl, Below.refl _ _⟩
  case round =>
    obtain ⟨k, hk, rfl, hb⟩ := hrel
    by_cases hkn : k < l.length
    · obtain ⟨t, ht⟩ : ∃ t, l[k]? = some t := ⟨_, List.getElem?_eq_getElem hkn⟩
      obtain ⟨b, off, rfl, hlt, d1⟩ := HR.out k hkn
      obtain ⟨b', off', rfl, hlt', d2⟩ := HR'.out k hkn
      have E1 := cell_regrown ((hb.cell (p := ⟨b, off + k, none⟩) hlt).trans (d1 _ (strs_get l k t ht)))
      have E2 := cell_regrown ((hb.cell (p := ⟨b', off' + k, none⟩) hlt').trans (d2 _ (strs_get l k t ht)))
      obtain ⟨k0, k1, k2, _⟩ := loop_facts hkn HML.out
      have HTS := Lib.hid k2
      clear d1 d2 ht k2
      go_wp2_with fail
      refine wp_region_quiet_below (by kernel_rfl) (by kernel_rfl) ?_
      repeat (go_big_quiet_step (fail))
      refine wpQuiet_nil ?_
      intro _ hw'
      obtain ⟨⟨dq, osq⟩, hw''⟩ := hw'
      subst hw''
      have hbx := below_regrown wr dq osq
      clear E1 E2
      generalize grow (redrawn wr dq) osq = w4 at *
      have hbw : Below w.heap.size w w4 := hb.trans (hbx.mono hb.size)
      go_wp2_with fail
      try rw [HTS.out]
      exact ⟨⟨k + 1, hkn, cast_succ k, hbw⟩, succ_less hkn⟩
    · obtain rfl : k = l.length := Nat.le_antisymm hk (Nat.le_of_not_lt hkn)
      go_wp2_with fail
      go_ret
      exact ⟨rfl, hb⟩

/-- What comes of a bundle that is sent now. -/
theorem fresh_recv {Q : List ByteArray} {G V : Nat} (hGV : G ≤ V) (hV : V ≤ Q.length) (hV2 : V ≤ 100000) (hg : Good Q) :
    ∃ (out : List ByteArray) (V' : Nat), recv (V : Int) (bitsB (pack (sendB (G : Int) (Q.drop G) (sendN (Q.drop G))))) = (out, true, (V' : Int)) ∧ Q.take V ++ out = Q.take V' ∧ V ≤ V' ∧ V' ≤ Q.length ∧ V' = V + out.length ∧ G + min (Q.length - G) 7 ≤ V' := by
  obtain ⟨out, V', h1, h2, h3, h4, h5⟩ := (Bun.new (G := G) (by omega) hg).recv hGV hV hV2
  refine ⟨out, V', h1, h2, h3, h4, h5, ?_⟩
  have hs : sendN (Q.drop G) = min (Q.length - G) 7 := by unfold sendN; rw [List.length_drop]
  rw [recv_sent G V (Q.drop G) hGV hV2 (fun t ht => hg t (List.mem_of_mem_drop ht)), hs] at h1
  split at h1
  · rename_i hc
    simp only [Prod.mk.injEq] at h1
    omega
  · simp only [Prod.mk.injEq] at h1
    omega

section
variable {w wx : World} {b1 b2 G V V' : Nat} {Q : List ByteArray} {vq vc vs v' vo vS : Value} {Rs : List (List Bool)} {out : List ByteArray} {vals : List Value} {P : List Ent}
/-- Behind the append of what came. -/
theorem tw_came (h : Holds w w.heap.size wx (.rw v' 9 1 (V + out.length) (strs (Q.take V) ++ strs out) :: .st b2 [.int .u32 (V' : Int)] 85 :: .qu vo 9 (strs out) :: .st b1 [.int .u32 (G : Int), vS] 65 :: .qu vS 9 (strs (Q.drop G)) ::
      .rw vq 9 1 Q.length (strs Q) :: .rw vs 25 1 Rs.length vals :: P)) (h1 : Q.take V ++ out = Q.take V') (h2 : V' = V + out.length) (hl : vals.length = Rs.length)
    (hp : ∀ (i : Nat) (R : List Bool), Rs[i]? = some R → ∃ vi, vals[i]? = some vi ∧ Ent.rw vi 5 1 (nby R) (nums .u8 (pack R)) ∈ P) : TW w wx b1 b2 Q G V' vq v' vs Rs := by
  rw [← strs_append, h1, ← h2] at h
  exact ⟨vS, vals, P, (h.up2.tail.up3.up3).perm (List.Perm.cons _ (List.Perm.cons _ perm2.symm)), hl, hp⟩
end

end Go.Proofs.Ytpnnalkihcemhaa.Str
