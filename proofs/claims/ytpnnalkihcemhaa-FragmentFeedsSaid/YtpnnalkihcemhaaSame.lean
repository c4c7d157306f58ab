/- Two lists of bytes: the reference's Same. -/
import Derived.Test.YtpnnalkihcemhaaWr
set_option linter.unusedVariables false
set_option linter.unusedSimpArgs false
namespace Go.Proofs.Ytpnnalkihcemhaa.Wr
open Go.RowKit Go.Proofs.Ytpnnalkihcemhaa.Mem Go.Proofs.Ytpnnalkihcemhaa.Bits Go.Proofs.Ytpnnalkihcemhaa.Num Go.Proofs.YtpnnalkihcemhaaW.PrintWords

theorem Rd.form {w : World} {v : Value} {n : Nat} {cs : List Value} (h : Rd w v n cs) (hl : cs.length = n) :
    ∃ A c, v = .slice A n c ∧ n ≤ c ∧ c ≤ maxLen ∧ ∀ i, i < n → ∃ b off, A = some ⟨b, off, none⟩ ∧ b < w.heap.size ∧ ∀ u, cs[i]? = some u → w.cell? ⟨b, off + i, none⟩ = some u := by
  rcases h with ⟨rfl, rfl, rfl⟩ | ⟨ad, c, rfl, hc, hm, hr⟩
  · exact ⟨none, 0, rfl, Nat.le_refl _, Nat.zero_le _, fun i hi => by omega⟩
  · refine ⟨some ad, c, rfl, hc, hm, fun i hi => ?_⟩
    obtain ⟨b, off, spot⟩ := ad
    have hc0 := hr 0 cs[0] (List.getElem?_eq_getElem (by omega))
    have hspot : spot = none := by
      cases spot with
      | none => rfl
      | some z => simp [Addr.add, World.cell?] at hc0; split at hc0 <;> simp at hc0
    subst hspot
    refine ⟨b, off, rfl, ?_, fun u hu => ?_⟩
    · have := World.block_lt_of_cell? w _ hc0
      simpa [Addr.add] using this
    · have := hr i u hu
      have e : (⟨b, off, none⟩ : Addr).add i = ⟨b, off + i, none⟩ := by
        unfold Addr.add; split <;> simp_all
      rwa [e] at this

set_option maxHeartbeats 1000000 in
theorem same (w : World) (v v' : Value) (xs ys : List Int) (h1 : Rd w v xs.length (nums .u8 xs)) (h2 : Rd w v' ys.length (nums .u8 ys)) :
    Calls Try.prog 21 #[v, v'] w fun e' w' => e' = .returned (.bool (decide (xs = ys))) ∧ Drawn0 w w' := by
  obtain ⟨A, c, rfl, hc, hm, hr⟩ := Rd.form h1 (by simp [nums])
  obtain ⟨A', c', rfl, hc', hm', hr'⟩ := Rd.form h2 (by simp [nums])
  have hm2 : c ≤ 9223372036854775807 := by unfold maxLen at hm; omega
  clear hm hm'
  by_cases hlen : xs.length = ys.length
  · have hb : ((xs.length : Int) != (ys.length : Int)) = false := by simp [hlen]
    obtain ⟨n, hx⟩ : ∃ n, xs.length = n := ⟨_, rfl⟩
    have hy : ys.length = n := by omega
    have hR : ∀ i, i < n → ∃ b off b' off' x y, xs[i]? = some x ∧ ys[i]? = some y ∧ A = some ⟨b, off, none⟩ ∧ A' = some ⟨b', off', none⟩ ∧ w.cell? ⟨b, off + i, none⟩ = some (.int .u8 x) ∧ w.cell? ⟨b', off' + i, none⟩ = some (.int .u8 y) := by
      intro i hi
      obtain ⟨b, off, e1, _, h1⟩ := hr i (by omega)
      obtain ⟨b', off', e2, _, h2⟩ := hr' i (by omega)
      exact ⟨b, off, b', off', _, _, List.getElem?_eq_getElem (by omega), List.getElem?_eq_getElem (by omega), e1, e2, h1 _ (by simp [nums, hx, hi]), h2 _ (by simp [nums, hy, hi])⟩
    rw [hx, hy]
    rw [hx] at hc
    have HX := Lib.hid hx
    have HY := Lib.hid hy
    have HR := Lib.hid hR
    clear hr hr' h1 h2 hlen hx hy hb hR
    have hb : ((n : Int) != (n : Int)) = false := by simp
    go_enter Try.func21, Try.ntmps21
    go_wp2
    go_loopw [5] (fun i wr => ∃ k : Nat, k ≤ n ∧ i = .int .i64 k ∧ (∀ j, j < k → xs[j]? = ys[j]?) ∧ Drawn0 w wr) (fun i _ => n - (intOf i).toNat)
    case atStart => exact ⟨0, Nat.zero_le _, rfl, fun j hj => by omega, Drawn0.refl _⟩
    case round =>
      obtain ⟨k, hk, rfl, hsame, hd⟩ := hrel
      obtain ⟨nn, rfl⟩ := hd.out
      have HS := Lib.hid hsame
      clear hsame hd
      by_cases hkn : k < n
      · obtain ⟨b, off, b', off', x, y, hxk, hyk, rfl, rfl, e1, e2⟩ := HR.out k hkn
        have k0 : (0 : Int) ≤ (k : Int) := by omega
        have k1 : (k : Int) < (n : Int) := by omega
        have HXK := Lib.hid hxk
        have HYK := Lib.hid hyk
        clear hxk hyk
        by_cases hxy : x = y
        · have hne : (x != y) = false := by simp [hxy]
          have HXY := Lib.hid hxy
          clear hxy
          go_wp2_with fail
          go_quiet (fail)
          go_wp2_with fail
          refine ⟨⟨k + 1, by omega, by go_num, fun j hj => ?_, ?_⟩, by simp [intOf]; omega⟩
          · by_cases hjk : j = k
            · subst hjk; rw [HXK.out, HYK.out, HXY.out]
            · exact HS.out j (by omega)
          · exact by first | exact ⟨⟨_, rfl⟩⟩ | exact ((Drawn0.refl _).step _).step _
        · have hne : (x != y) = true := by simp [hxy]
          go_wp2_with fail
          go_quiet (fail)
          go_wp2_with fail
          go_ret
          refine ⟨ret_b ?_, by first | exact ⟨⟨_, rfl⟩⟩ | exact ((Drawn0.refl _).step _).step _⟩
          symm
          simp only [decide_eq_false_iff_not]
          intro h
          have h1 := HXK.out
          rw [h, HYK.out] at h1
          exact hxy (Option.some.inj h1).symm
      · obtain rfl : k = n := by omega
        go_wp2
        go_ret
        refine ⟨ret_b ?_, by first | exact ⟨⟨_, rfl⟩⟩ | exact ((Drawn0.refl _).step _).step _⟩
        symm
        simp only [decide_eq_true_eq]
        apply List.ext_getElem?
        intro j
        by_cases hj : j < k
        · exact HS.out j hj
        · rw [List.getElem?_eq_none (by have := HX.out; omega), List.getElem?_eq_none (by have := HY.out; omega)]
  · go_enter Try.func21, Try.ntmps21
    have hb : ((xs.length : Int) != (ys.length : Int)) = true := by simp; omega
    go_wp2
    go_ret
    exact ⟨ret_b (by symm; simp; intro h; exact hlen (by rw [h])), Drawn0.refl _⟩

end Go.Proofs.Ytpnnalkihcemhaa.Wr
