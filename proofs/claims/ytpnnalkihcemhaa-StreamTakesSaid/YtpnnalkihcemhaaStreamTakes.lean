/- The law StreamTakes: whatever bytes come, one behind the other, the lines are given out that the chapter says. For all lists of bytes; no condition. Here: the walk. -/
import Derived.Test.YtpnnalkihcemhaaRcvR
import Derived.Test.YtpnnalkihcemhaaRcvL
import Derived.Test.YtpnnalkihcemhaaTwoS
import Derived.Test.YtpnnalkihcemhaaLists
set_option linter.unusedVariables false
set_option linter.unusedSimpArgs false
namespace Go.Proofs.Ytpnnalkihcemhaa.Str
open Go.Sort Go.RowKit Go.Deep Go.WideShapes Go.ChangeShapes Go.Proofs.Ytpnnalkihcemhaa.Mem Go.Proofs.Ytpnnalkihcemhaa.Open Go.Proofs.Ytpnnalkihcemhaa.Bits Go.Proofs.Ytpnnalkihcemhaa.Wr Go.Proofs.Ytpnnalkihcemhaa.Num Go.Proofs.Ytpnnalkihcemhaa.Step Go.Proofs.YtpnnalkihcemhaaW.PrintWords

theorem rb_le {g : Int} (n : Nat) : g ≤ g + (n : Int) := by omega
theorem rb_cut {g x : Int} {z : Nat} (hz : z < 8) (h : ¬ (g + 1 < x ∨ x + (z : Int) ≤ g + 1)) : g ≤ g + (z : Int) - (g + 1 - x) ∧ g + (z : Int) - (g + 1 - x) ≤ g + 7 := by omega
theorem recv_bounds {given : Int} {Bt : List Bool} : given ≤ (recv given Bt).2.2 ∧ (recv given Bt).2.2 ≤ given + 7 ∧ (recv given Bt).1.length ≤ 7 := by
  obtain ⟨z, hz, hz8⟩ := nat_val Bt 3
  have h7 : given ≤ given + 7 := by omega
  unfold recv
  rw [hz, Int.toNat_natCast]
  split
  · exact ⟨Int.le_refl _, h7, by simp⟩
  · split
    · exact ⟨Int.le_refl _, h7, by simp⟩
    · split
      · exact ⟨Int.le_refl _, h7, by simp⟩
      · rename_i ls hls
        have hlen : ls.length = z := by
          unfold linesOf at hls
          split at hls
          · cases hls
          · exact takeLines_length _ _ _ hls
        split
        · exact ⟨Int.le_refl _, h7, by simp⟩
        · split
          · exact ⟨Int.le_refl _, h7, by simp⟩
          · rename_i hn
            obtain ⟨c1, c2⟩ := rb_cut hz8 hn
            refine ⟨c1, c2, ?_⟩
            rw [List.length_drop]
            omega
theorem tk_facts {g g' : Int} {k : Nat} (h0 : 0 ≤ g) (h1 : g ≤ 7 * (k : Int)) (h2 : g ≤ g') (h3 : g' ≤ g + 7) : 0 ≤ g' ∧ g' ≤ 7 * ((k + 1 : Nat) : Int) := by omega
theorem tk_small {g' : Int} {k : Nat} (h0 : 0 ≤ g') (h1 : g' ≤ 7 * ((k + 1 : Nat) : Int)) (hk : k < 50) : g' < 4294967295 ∧ IntKind.i64.wrap (g' + 1) = g' + 1 ∧ wrap64 (g' + 1) = g' + 1 ∧ IntKind.i64.wrap g' = g' ∧ wrap64 g' = g' := by
  rw [wrap_i64, wrap_i64]; unfold wrap64; omega
theorem tk_100 {g : Int} {k : Nat} (h1 : g ≤ 7 * (k : Int)) (hk : k ≤ 50) : g ≤ 100000 := by omega
theorem tot3_facts {tot n : Nat} (h : tot ≤ 3000) (hn : n ≤ reachBytes) : ∃ x : Nat, tot + n = x ∧ IntKind.i64.wrap ((tot : Int) + (n : Int)) = (x : Int) ∧ wrap64 ((tot : Int) + (n : Int)) = (x : Int) := by
  have := reachBytes_lt
  refine ⟨tot + n, rfl, ?_, ?_⟩
  · rw [wrap_i64]; unfold wrap64; omega
  · unfold wrap64; omega
theorem tk_len {tot n x : Nat} (h : tot + n = x) (hx : ¬ (3000 : Int) < (x : Int)) : n ≤ 100000000 ∧ x ≤ 3000 := by omega
theorem rd_slice {w : World} {u : Value} {n : Nat} {cs : List Value} (h : Rd w u n cs) : ∃ A c, u = .slice A n c ∧ n ≤ maxLen := by
  rcases h with ⟨rfl, rfl, _⟩ | ⟨ad, c, rfl, h1, h2, _⟩
  · exact ⟨none, 0, rfl, Nat.zero_le _⟩
  · exact ⟨some ad, c, rfl, Nat.le_trans h1 h2⟩
theorem lists_at {w : World} {v : Value} {us : List Value} (h : RdL w v 1 (us.map fun u => [u])) :
    ∃ A c, v = .slice A us.length c ∧ us.length ≤ c ∧ c ≤ maxLen ∧ ∀ i u, us[i]? = some u → ∃ b off, A = some ⟨b, off, none⟩ ∧ b < w.heap.size ∧ w.cell? ⟨b, off + i, none⟩ = some u := by
  obtain ⟨A, c, hv, hc, hm, hr⟩ := h.form (by decide)
  rw [List.length_map] at hv hc
  refine ⟨A, c, hv, hc, hm, fun i u hu => ?_⟩
  have hi : i < us.length := (List.getElem?_eq_some_iff.1 hu).1
  obtain ⟨b, off, hA, hb, hr⟩ := hr i (by rw [List.length_map]; exact hi)
  have he : (us.map fun u => [u])[i]? = some [u] := by rw [List.getElem?_map, hu]; rfl
  have := hr _ he 0 _ rfl
  rw [Nat.mul_one] at this
  exact ⟨b, off, hA, hb, this⟩

/-- Two receivers at b1 and b2, which have given as many. -/
def TK (w wx : World) (b1 b2 : Nat) (g : Int) : Prop :=
  Holds w w.heap.size wx (.st b1 [.int .u32 g] 85 :: .st b2 [.int .i64 g] 88 :: [])

set_option maxHeartbeats 4000000 in
set_option maxRecDepth 100000 in
theorem streamTakes_core (w : World) (v : Value) (us : List Value) (hv : RdL w v 1 (us.map fun u => [u])) (hwf : ∀ u, u ∈ us → ∃ l : List Int, Rd w u l.length (nums .u8 l) ∧ (∀ o, o ∈ l → 0 ≤ o ∧ o < 256) ∧ l.length ≤ reachBytes) :
    Calls Try.prog 10 #[v] w fun e' w' => e' = .returned (.bool true) ∧ Below w.heap.size w w' := by
  obtain ⟨A, c, rfl, hc, hm, hr⟩ := lists_at hv
  have HR := Lib.hid hr
  have HWF := Lib.hid hwf
  clear hr hm hc hv hwf
  by_cases hbig : 50 < us.length
  · have tb : decide ((50 : Int) < (us.length : Int)) = true := by simp; omega
    clear hbig
    go_enter Try.func10, Try.ntmps10
    go_wp2_with fail
    refine (awake16 _).mono ?_
    rintro e' w1 ⟨rfl, h1⟩
    go_wp2_with fail
    refine (awake16 _).mono ?_
    rintro e' w3 ⟨rfl, h4⟩
    go_wp2_with fail
    go_ret
    exact ⟨rfl, h1.trans (h4.mono h1.size)⟩
  · have tb : decide ((50 : Int) < (us.length : Int)) = false := by simp; omega
    have HLN : Hid (us.length ≤ 50) := Nat.le_of_not_lt hbig
    clear hbig
    go_enter Try.func10, Try.ntmps10
    go_wp2_with fail
    refine (awake16 _).mono ?_
    rintro e' w1 ⟨rfl, h1⟩
    have h2 := (Holds.belowed (Holds.start w) h1).alloc [.int .u32 0] 85
    have h3 := h2.alloc [.int .i64 0] 88
    have hs : (w1.alloc (.cells [.int .u32 0].toArray 85)).heap.size = w1.heap.size + 1 := by simp
    rw [hs] at h3
    obtain ⟨b1, hb1⟩ : ∃ b1, w1.heap.size = b1 := ⟨_, rfl⟩
    rw [hb1] at h3
    obtain ⟨b2, hb2⟩ : ∃ b2, b1 + 1 = b2 := ⟨_, rfl⟩
    rw [hb2] at h3
    have hq : TK w ((w1.alloc (.cells [.int .u32 0].toArray 85)).alloc (.cells [.int .i64 0].toArray 88)) b1 b2 0 := h3.up1
    have HQ := Lib.hid hq
    clear h1 h2 h3 hs hq
    go_wp2_with fail
    try rw [hb1]
    try rw [hb2]
    clear hb1 hb2
    go_loopw [3, 6] (fun n i wr => ∃ (k tot : Nat) (g : Int), k ≤ us.length ∧ i = .int .i64 k ∧ n = .int .i64 tot ∧ tot ≤ 3000 ∧ 0 ≤ g ∧ g ≤ 7 * (k : Int) ∧ TK w wr b1 b2 g) (fun _ i _ => us.length - (intOf i).toNat)
    case atStart => exact ⟨0, 0, 0, Nat.zero_le _, rfl, rfl, by decide, by decide, by decide, HQ.out⟩
    case round =>
      obtain ⟨k, tot, g, hk, rfl, rfl, hT, hg0, hg1, hS⟩ := hrel
      clear HQ
      have HT := Lib.hid hT
      have HG0 := Lib.hid hg0
      have HG1 := Lib.hid hg1
      have HS := Lib.hid hS
      clear hT hg0 hg1 hS
      by_cases hkn : k < us.length
      · obtain ⟨u, hu⟩ : ∃ u, us[k]? = some u := ⟨_, List.getElem?_eq_getElem hkn⟩
        obtain ⟨b, off, rfl, hlt, d0⟩ := HR.out k u hu
        obtain ⟨l, hrd, hby, hlm⟩ := HWF.out u (List.mem_of_getElem? hu)
        obtain ⟨A', c', rfl, _⟩ := rd_slice hrd
        have HRD := Lib.hid hrd
        have HBY := Lib.hid hby
        obtain ⟨k0, k1, k2, k3⟩ := loop_facts hkn (Nat.le_trans HLN.out (by decide))
        have hk50 : k < 50 := Nat.lt_of_lt_of_le hkn HLN.out
        have HK50 := Lib.hid hk50
        obtain ⟨x, y0, y1, y2⟩ := tot3_facts HT.out hlm
        have hbS := HS.out.below
        have e0 := (hbS.cell (p := ⟨b, off + k, none⟩) hlt).trans d0
        have HK2 := Lib.hid k2
        have HX := Lib.hid y0
        have AC : Hid (∀ wx, Below w.heap.size w wx → wx.cell? ⟨b, off + k, none⟩ = some (.slice A' l.length c')) := fun wx hb => (hb.cell (p := ⟨b, off + k, none⟩) hlt).trans d0
        clear d0 hu hrd hby hlm y0 hbS k2 k3 hk50
        by_cases hx : (3000 : Int) < (x : Int)
        · have t1 : decide ((3000 : Int) < (x : Int)) = true := decide_eq_true hx
          have t2 : 3000 < x := Int.ofNat_lt.1 hx
          go_wp2_with fail
          go_ret
          exact ⟨rfl, HS.out.below⟩
        · have t1 : decide ((3000 : Int) < (x : Int)) = false := decide_eq_false hx
          obtain ⟨hl8, hx3⟩ := tk_len HX.out hx
          have t2 : ¬ 3000 < x := fun h => hx (Int.ofNat_lt.2 h)
          have hok : bytesOk l := ⟨hl8, HBY.out⟩
          have HOK := Lib.hid hok
          have HX3 := Lib.hid hx3
          have hp := rnew w w.heap.size wr _ _ l HS.out (HRD.out.below HS.out.below) hok
          have HP := Lib.hid hp
          clear hp hok hl8 hx3 hx
          go_wp2_with fail
          refine HP.out.mono ?_
          rintro e' w5 ⟨rb, rfl, h5⟩
          have hp := rcv w w.heap.size w5 b1 rb g l _ h5 HOK.out HG0.out (tk_100 HG1.out (Nat.le_of_lt HK50.out))
          obtain ⟨out, okb, g', hrc⟩ : ∃ out okb g', recv g (bitsB l) = (out, okb, g') := ⟨_, _, _, rfl⟩
          obtain ⟨q1, q2, q3⟩ := recv_bounds (given := g) (Bt := bitsB l)
          rw [hrc] at hp q1 q2 q3
          dsimp only at hp q1 q2 q3
          obtain ⟨q4, q5⟩ := tk_facts HG0.out HG1.out q1 q2
          have HP2 := Lib.hid hp
          have HRC := Lib.hid hrc
          have HQ3 := Lib.hid q3
          have HQ4 := Lib.hid q4
          have HQ5 := Lib.hid q5
          clear hp h5 HP hrc q1 q2 q3 q4 q5 e0
          go_wp2_with fail
          refine HP2.out.mono ?_
          rintro e' w6 ⟨vo, rfl, h6⟩
          obtain ⟨Ao, co, rfl, _⟩ := sslice h6.up1
          have e0 := AC.out _ h6.below
          have hp := rrnew w w6 _ _ l h6 HRD.out HOK.out
          have HP := Lib.hid hp
          clear hp h6 HP2
          go_wp2_with fail
          refine HP.out.mono ?_
          rintro e' w7 ⟨rb2, rfl, h7⟩
          obtain ⟨v7, h7⟩ := h7
          have hp := rrcv w w.heap.size w7 b2 rb2 g (bitsB l) _ ⟨v7, h7.perm (List.Perm.cons _ (List.Perm.cons _ perm2))⟩ (by rw [bitsB_length]; have := HOK.out.1; omega) HG0.out (tk_100 HG1.out (Nat.le_of_lt HK50.out))
          rw [HRC.out] at hp
          dsimp only at hp
          have HP2 := Lib.hid hp
          clear hp h7 HP e0
          go_wp2_with fail
          refine HP2.out.mono ?_
          rintro e' w8 ⟨vr, rfl, h8⟩
          obtain ⟨Ar, cr, rfl⟩ := h8.up1.slice
          clear HP2
          have r1 := ownsQ.rd (h8.up3).head
          have r2 := (h8.up1).rd
          rw [strs_length] at r1
          have E2 := cell_regrown (h8.cell 0 rfl)
          obtain ⟨s1, s2, s3, s4, s5⟩ := tk_small HQ4.out HQ5.out HK50.out
          have hol : out.length ≤ 1000 := Nat.le_trans HQ3.out (by decide)
          have HC : Hid (∀ d os, Calls Try.prog 39 #[.slice Ao out.length co, .slice Ar out.length cr] (grow (redrawn w8 d) os) fun e w'' => e = .returned (.bool true) ∧ ∃ p : Regrown, w'' = grow (redrawn w8 p.d) p.os) := fun d os => Calls.regrown_of (ssame _ _ _ out (r1.below (below_regrown w8 d os)) (r2.below (below_regrown w8 d os)) hol)
          have HD : Hid (∀ d os, Calls Try.prog 40 #[.pointer (some ⟨b1, 0, none⟩)] (grow (redrawn w8 d) os) fun e w'' => e = .returned (.int .u32 (g' + 1)) ∧ ∃ p : Regrown, w'' = grow (redrawn w8 p.d) p.os) := fun d os => Calls.regrown_of ((swants w w.heap.size _ b1 g' _ _ (Holds.belowed h8.up2 (below_regrown w8 d os)) HQ4.out s1).mono fun e' w' ⟨h1, h2⟩ => ⟨h1, h2 ▸ Below.refl _ _⟩)
          have te : (okb != okb) = false := by simp
          have tg : ((g' + 1 : Int) != g' + 1) = false := by simp
          have H8 := Lib.hid h8
          clear h8 r1 r2 s1 hol
          go_wp2_with fail
          refine wp_region_quiet_below (by kernel_rfl) (by kernel_rfl) ?_
          repeat (go_big_quiet_step (first | (go_at_call 39; with_reducible exact HC.out _ _) | (go_at_call 40; with_reducible exact HD.out _ _)))
          refine wpQuiet_nil ?_
          intro _ hw'
          obtain ⟨⟨dq, osq⟩, hw''⟩ := hw'
          subst hw''
          have hbx := below_regrown w8 dq osq
          clear E2 HC HD
          generalize grow (redrawn w8 dq) osq = w9 at *
          have h9 := Holds.belowed H8.out hbx
          have hT9 : TK w w9 b1 b2 g' := h9.up2.up3.tail.up2.tail
          have HT9 := Lib.hid hT9
          clear hbx h9 hT9 H8
          go_wp2_with fail
          try rw [HK2.out]
          exact ⟨⟨k + 1, _, _, hkn, cast_succ k, rfl, HX3.out, HQ4.out, HQ5.out, HT9.out⟩, succ_less hkn⟩
      · obtain rfl : k = us.length := Nat.le_antisymm hk (Nat.le_of_not_lt hkn)
        go_wp2_with fail
        go_ret
        exact ⟨rfl, HS.out.below⟩

set_option maxRecDepth 100000 in
theorem streamTakes (w : World) {H : Type} {enc : TypeId × Value → H} {base base' : Nat} {sp : Nat → Bool} {held : Bool} {d : DataW H} {ps : List MemPlace} {r : Reach} (v : Value)
    (hok : Value.okWide Try.prog w r base' 27 v) (h : DataW.Trod enc Try.prog w base sp held 27 v d ps) (hz : ∀ n ∈ d.weights Try.prog 27, n ≤ reachBytes) :
    Calls Try.prog 10 #[v] w fun e' w' => e' = .returned (.bool true) ∧ Below w.heap.size w w' := by
  obtain ⟨us, hv, hwf⟩ := Frag.open_lists hok h hz
  exact streamTakes_core w v us hv hwf

end Go.Proofs.Ytpnnalkihcemhaa.Str
