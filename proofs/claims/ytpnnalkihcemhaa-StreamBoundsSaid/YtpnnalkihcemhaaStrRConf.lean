/- The reference's sender of lines: Confirm. -/
import Derived.Test.YtpnnalkihcemhaaStrRPut
set_option linter.unusedVariables false
set_option linter.unusedSimpArgs false
namespace Go.Proofs.Ytpnnalkihcemhaa.Str
open Go.Sort Go.RowKit Go.Proofs.Ytpnnalkihcemhaa.Mem Go.Proofs.Ytpnnalkihcemhaa.Bits Go.Proofs.Ytpnnalkihcemhaa.Wr Go.Proofs.Ytpnnalkihcemhaa.Num Go.Proofs.Ytpnnalkihcemhaa.Step Go.Proofs.YtpnnalkihcemhaaW.PrintWords

theorem rc_facts {a : Nat} {wants : Int} (ha : a ≤ 300) (w0 : 0 ≤ wants) (w1 : wants < 4294967296) : IntKind.i64.wrap wants = wants ∧ wrap64 wants = wants ∧ IntKind.i64.wrap ((a : Int) + 1) = (a : Int) + 1 ∧ wrap64 ((a : Int) + 1) = (a : Int) + 1 ∧ IntKind.i64.wrap (a : Int) = (a : Int) := by
  rw [wrap_i64, wrap_i64, wrap_i64]; unfold wrap64; omega

theorem rc_n {g a : Nat} {wants : Int} (hg : g ≤ a) (hw : ¬ (a : Int) + 1 < wants) : ∃ N, confN (g : Int) (a - g) wants = N ∧ g + N ≤ a ∧ ∀ k x : Nat, k ≤ N → g + k = x → ((x : Int) + 1 < wants ↔ k < N) := by
  refine ⟨_, rfl, ?_, ?_⟩
  · unfold confN
    split <;> omega
  · intro k x hk hx
    unfold confN at hk ⊢
    split at hk <;> rename_i h
    · rw [if_pos h]; omega
    · rw [if_neg h]; omega
theorem rc_y {x y : Nat} (hx : x ≤ 300) (hy : x + 1 = y) : (x : Int) + 1 = (y : Int) ∧ IntKind.i64.wrap ((x : Int) + 1) = (y : Int) ∧ wrap64 ((x : Int) + 1) = (y : Int) ∧ IntKind.i64.wrap (y : Int) = (y : Int) ∧ wrap64 (y : Int) = (y : Int) := by rw [wrap_i64, wrap_i64]; unfold wrap64; omega
theorem rc_b {g k N a x : Nat} (h : g + N ≤ a ∧ a ≤ 300) (hk : k ≤ N) (hx : g + k = x) : x ≤ 300 ∧ N ≤ 1000 := by omega

set_option maxHeartbeats 1000000 in
theorem rsconfirm (W : World) (B : Nat) (w : World) (b : Nat) (all : List ByteArray) (gone : Nat) (F : List Ent) (wants : Int) (hS : HasQ W B w b all gone F) (hg : gone ≤ all.length) (hl : all.length ≤ 300) (w0 : 0 ≤ wants) (w1 : wants < 4294967296) :
    Calls Try.prog 33 #[.pointer (some ⟨b, 0, none⟩), .int .u32 wants] w fun e' w' => e' = .returned (.int .i64 (confN (gone : Int) (all.length - gone) wants : Nat)) ∧ HasQ W B w' b all (gone + confN (gone : Int) (all.length - gone) wants) F := by
  obtain ⟨v, hH⟩ := hS
  obtain ⟨A, c, rfl⟩ := hH.up1.slice
  have c0 := hH.cell 0 rfl
  obtain ⟨x1, x2, x3, x4, x5⟩ := rc_facts hl w0 w1
  by_cases hbig : (all.length : Int) + 1 < wants
  · have e : confN (gone : Int) (all.length - gone) wants = 0 := if_neg (by omega)
    rw [e]
    have t1 : decide ((all.length : Int) + 1 < wants) = true := decide_eq_true hbig
    have HH := Lib.hid hH
    clear hH hg hl e w0 w1
    go_enter Try.func33, Try.ntmps33
    go_wp2_with fail
    go_ret
    exact ⟨rfl, _, HH.out⟩
  · have t1 : decide ((all.length : Int) + 1 < wants) = false := decide_eq_false hbig
    obtain ⟨N, hN, hNa, hNn⟩ := rc_n hg hbig
    rw [hN]
    have HH := Lib.hid hH
    have HNN := Lib.hid hNn
    have HNA := Lib.hid (And.intro hNa hl)
    clear hH hg hl w0 w1 hN hNn hNa hbig
    go_enter Try.func33, Try.ntmps33
    go_wp2_with fail
    clear c0
    go_loopw [5] (fun i wr => ∃ k : Nat, k ≤ N ∧ i = .int .i64 k ∧ Holds W B wr (.st b [.slice A all.length c, .int .i64 ((gone + k : Nat) : Int)] 68 :: .rw (.slice A all.length c) 9 1 all.length (strs all) :: F)) (fun i _ => N - (intOf i).toNat)
    case atStart => exact ⟨0, Nat.zero_le _, rfl, HH.out⟩
    case round =>
      obtain ⟨k, hk, rfl, hH⟩ := hrel
      clear HH
      obtain ⟨x, hx⟩ : ∃ x, gone + k = x := ⟨_, rfl⟩
      rw [hx] at hH
      have hc := HNN.out k x hk hx
      obtain ⟨hxa, hNb⟩ := rc_b HNA.out hk hx
      obtain ⟨y, hy⟩ : ∃ y, x + 1 = y := ⟨_, rfl⟩
      obtain ⟨y1, y2, y3, y4, y5⟩ := rc_y hxa hy
      have HY := Lib.hid hy
      rw [y1] at hc
      have c1 := hH.cell 1 rfl
      have f1 := hH.frozen 1
      have HH := Lib.hid hH
      by_cases hkn : k < N
      · have t2 : (y : Int) < wants := hc.2 hkn
        have t3 : decide ((y : Int) < wants) = true := decide_eq_true t2
        obtain ⟨_, _, k3, _⟩ := loop_facts hkn hNb
        have HK := Lib.hid k3
        have HX := Lib.hid hx
        clear hH hc hx hy hxa hNb k3
        go_wp2_with fail
        try rw [HK.out]
        refine ⟨⟨k + 1, hkn, cast_succ k, ?_⟩, succ_less hkn⟩
        rw [← Nat.add_assoc, HX.out, HY.out]
        exact HH.out.set 1 _
      · obtain rfl : k = N := Nat.le_antisymm hk (Nat.le_of_not_lt hkn)
        have t2 : ¬ (y : Int) < wants := fun h => hkn (hc.1 h)
        have t3 : decide ((y : Int) < wants) = false := decide_eq_false t2
        have HX := Lib.hid hx
        clear hH hc hx hy hxa hNb
        go_wp2_with fail
        go_ret
        refine ⟨rfl, .slice A all.length c, ?_⟩
        rw [HX.out]
        exact HH.out

end Go.Proofs.Ytpnnalkihcemhaa.Str
