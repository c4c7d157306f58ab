/- The writer of bits: what Put leaves. -/
import Derived.Test.YtpnnalkihcemhaaProg
import Derived.Test.YtpnnalkihcemhaaMem
import Derived.Test.YtpnnalkihcemhaaBits
import Derived.Test.YtpnnalkihcemhaaWWords
import Derived.StillTailTactics
import Derived.WalkSpells
set_option linter.unusedVariables false
set_option linter.unusedSimpArgs false
namespace Go.Proofs.Ytpnnalkihcemhaa.Wr
open Go.RowKit Go.Proofs.Ytpnnalkihcemhaa.Mem Go.Proofs.Ytpnnalkihcemhaa.Bits Go.Proofs.Ytpnnalkihcemhaa.Num Go.Proofs.YtpnnalkihcemhaaW.PrintWords

theorem info_u8 : (Try.prog.info? 5).map (fun i => (i.zero, i.size, i.bytes)) = some (some (.int .u8 0), 1, 1) := by kernel_rfl

/-- A writer of the bits l at the head of block b. -/
def HasW (W : World) (B : Nat) (w : World) (b : Nat) (e : TypeId) (l : List Bool) (F : List Ent) : Prop :=
  ∃ v, Holds W B w (.st b [v, .int .i64 (l.length : Int)] e :: .rw v 5 1 (nby l) (nums .u8 (pack l)) :: F)

set_option maxHeartbeats 1000000 in
set_option maxRecDepth 100000 in
theorem put (W : World) (B : Nat) (w : World) (b : Nat) (e : TypeId) (l : List Bool) (F : List Ent) (x n : Int) (hw : HasW W B w b e l F)
    (hx0 : 0 ≤ x) (hx : x < 18446744073709551616) (hn0 : 0 ≤ n) (hn : n ≤ 64) (hl : l.length + 64 ≤ 1000000000) :
    Calls Try.prog 42 #[.pointer (some ⟨b, 0, none⟩), .int .u64 x, .int .i64 n] w fun e' w' => e' = .returned (.tuple #[]) ∧ HasW W B w' b e (l ++ bitsOf x n.toNat) F := by
  obtain ⟨m, rfl⟩ := Int.eq_ofNat_of_zero_le hn0
  obtain ⟨i0, hi, hz0, hz1, hz2⟩ := info_parts info_u8
  go_enter Try.func42, Try.ntmps42
  go_wp2
  go_loopw [18] (fun i wr => ∃ k : Nat, k ≤ m ∧ i = .int .i64 k ∧ HasW W B wr b e (l ++ bitsOf x k) F) (fun i _ => m - (intOf i).toNat)
  case atStart => exact ⟨0, Nat.zero_le _, rfl, by simpa [bitsOf] using hw⟩
  case round =>
    obtain ⟨k, hk, rfl, v, hH⟩ := hrel
    generalize hL : l ++ bitsOf x k = L at hH
    have hLl : L.length ≤ l.length + 64 := by rw [← hL]; simp [bitsOf_length]; omega
    have HL := Lib.hid hL
    clear hL
    obtain ⟨A, c, rfl⟩ := hH.up1.slice
    have c0 := hH.cell 0 (v := .slice A (nby L) c) rfl
    have c1 := hH.cell 1 (v := .int .i64 (L.length : Int)) rfl
    have f0 := hH.frozen 0
    have f1 := hH.frozen 1
    have hnb : nby L = (L.length + 7) / 8 := rfl
    have hbound : nby L ≤ 1000000000 := by omega
    have Hnb := Lib.hid hnb
    clear hnb
    by_cases hkm : k < m
    · obtain ⟨np, P, bt, hq, hsm0, hsm1, hby, hset, hnp⟩ : ∃ np : Nat, ∃ P : List Int, ∃ bt : Bool, L.length / 8 < np ∧ 0 ≤ P.getD (L.length / 8) 0 ∧ P.getD (L.length / 8) 0 < 2 ^ (L.length % 8) ∧ bt = decide (x / 2 ^ k % 2 = 1) ∧
          pack (L ++ [bt]) = P.set (L.length / 8) (P.getD (L.length / 8) 0 + 2 ^ (L.length % 8) * b01 bt) ∧ (np = nby (L ++ [bt]) ∧ P = if L.length % 8 = 0 then pack L ++ [0] else pack L) := by
        obtain ⟨q1, q2, q3, q4, q5⟩ := pack_step L (decide (x / 2 ^ k % 2 = 1)) _ rfl
        exact ⟨_, _, _, q1, q3, q4, rfl, q5, rfl, rfl⟩
      have HP := Lib.hid hnp
      have Hset := Lib.hid hset
      have Hby := Lib.hid hby
      clear hnp hset hby
      by_cases h8 : L.length % 8 = 0
      case' pos =>
        have e8 : (((L.length : Int) % 8) == 0) = true := by simp; omega
        go_wp2_with (at_builtin; refine wpList_append_own_at _ rfl (.tmp 31) (.tmp 32) 25 rfl B 5 i0 (.int .u8 0) 1 1 Try.underlying25 hi hz0 hz1 hz2 rfl (by decide) _ _ _ rfl (hH.up1.own.alloc _) ⟨wr.heap.size, 0, none⟩ 1 1 [.int .u8 0] rfl rfl (cell_one_new _ _ _) ?c2 ?c3 ?c4 ?c5 ?_)
        case c2 => intro u hu; simp at hu; subst hu; rfl
        case c3 => unfold maxLen; omega
        case c4 => omega
        case c5 => have := hH.size; simp; omega
        intro v' w1 ho hg _ hat
        have h1 := (hH.alloc' (.cells #[.int .u8 0] 5)).up1.grew ho hg (hat.imp id (fun h => ⟨_, h, by simp⟩))
        obtain ⟨g, cp, rfl, hcp, hBg, hgl⟩ := h1.row (by omega)
        have h2 := h1.up1
        have c0 := h2.cell 0 (v := .slice A (nby L) c) rfl
        have c1 := h2.cell 1 (v := .int .i64 (L.length : Int)) rfl
        have f0 := h2.frozen 0
        have f1 := h2.frozen 1
        clear ho hg hat hH
        go_wp2_with fail
        have hS : Holds W B (w1.setCell ⟨b, 0, none⟩ (.slice (some ⟨g, 0, none⟩) (nby L + 1) cp)) (.st b [.slice (some ⟨g, 0, none⟩) (nby L + 1) cp, .int .i64 (L.length : Int)] e ::
            .rw (.slice (some ⟨g, 0, none⟩) (nby L + 1) cp) 5 1 (nby L + 1) (nums .u8 (pack L) ++ [.int .u8 0]) :: F) := h2.set 0 _
        clear h1 h2 c0 c1 f0 f1
        generalize w1.setCell ⟨b, 0, none⟩ (.slice (some ⟨g, 0, none⟩) (nby L + 1) cp) = ws at hS ⊢
        have hnp : nby L + 1 = np := by rw [HP.out.1]; have := Hnb.out; simp [nby]; omega
        rw [hnp] at hS ⊢
        have hPe : nums .u8 (pack L) ++ [.int .u8 0] = nums .u8 P := by rw [HP.out.2, if_pos h8]; simp [nums]
        rw [hPe] at hS
        clear hnp hPe e8 h8 hcp hBg hgl
        skip
      case' neg =>
        have e8 : (((L.length : Int) % 8) == 0) = false := by simp; omega
        have hpos : 0 < nby L := by have := Hnb.out; omega
        obtain ⟨g, cp, he, hcp, hBg, hgl⟩ := hH.up1.row hpos
        simp only [Value.slice.injEq] at he
        obtain ⟨rfl, _, rfl⟩ := he
        go_wp2_with fail
        have hS := hH
        clear c0 c1 f0 f1 hH
        have hnp : nby L = np := by rw [HP.out.1]; have := Hnb.out; simp [nby]; omega
        rw [hnp] at hS
        have hPe : nums .u8 (pack L) = nums .u8 P := by rw [HP.out.2, if_neg h8]
        rw [hPe] at hS
        clear hnp hPe e8 h8 hpos hcp hBg hgl
        obtain ⟨cp, hcp'⟩ : ∃ cp, cp = c := ⟨_, rfl⟩
        subst hcp'
        obtain ⟨ws, hws⟩ : ∃ ws : World, ws = wr := ⟨_, rfl⟩
        subst hws
        skip
      all_goals
        have hne : b ≠ g := hS.st_rw_ne
        have hne' : g ≠ b := hne.symm
        have hq0 : (0 : Int) ≤ (L.length : Int) / 8 := by omega
        have hq1 : (L.length : Int) / 8 < (np : Int) := by omega
        have c0 := hS.cell 0 (v := .slice (some ⟨g, 0, none⟩) np cp) rfl
        have c1 := hS.cell 1 (v := .int .i64 (L.length : Int)) rfl
        have f0 := hS.frozen 0
        have f1 := hS.frozen 1
        have cq : ws.cell? ⟨g, L.length / 8, none⟩ = some (.int .u8 (P.getD (L.length / 8) 0)) := by
          rw [hS.up1.rcell (L.length / 8) (by omega)]
          have := hS.up1.len
          simp [nums] at this
          simp [nums, List.getD_eq_getElem?_getD, show L.length / 8 < P.length by omega]
        have fq := hS.up1.rfrozen (L.length / 8)
        have hwq : IntKind.i64.wrap ((L.length : Int) / 8) = (L.length : Int) / 8 := by rw [wrap_i64]; unfold wrap64; omega
        have htq : ((L.length : Int) / 8).toNat = L.length / 8 := by omega
        go_still_tail 26, (by kernel_rfl)
        go_wp2_with fail
        have hor := or_bit x (P.getD (L.length / 8) 0) k (L.length % 8) hx0 hx (by omega) (by omega) hsm0 hsm1
        rw [← Hby.out] at hor
        rw [List.getD_eq_getElem?_getD] at hor
        rw [hor]
        refine ⟨⟨k + 1, by omega, by go_num, .slice (some ⟨g, 0, none⟩) np cp, ?_⟩, by simp [intOf]; omega⟩
        have h1 := (hS.up1.rset (L.length / 8) (.int .u8 (P[L.length / 8]?.getD 0 + 2 ^ (L.length % 8) * b01 bt))).up1.set 1 (.int .i64 ((L.length : Int) + 1))
        have h2 := h1.drew
        rw [bitsOf_succ, ← List.append_assoc, HL.out, ← Hby.out, Hset.out, ← HP.out.1]
        have hlen : ((L ++ [bt]).length : Int) = (L.length : Int) + 1 := by simp
        rw [hlen, List.getD_eq_getElem?_getD]
        have hnum : nums .u8 (P.set (L.length / 8) (P[L.length / 8]?.getD 0 + 2 ^ (L.length % 8) * b01 bt)) = (nums .u8 P).set (L.length / 8) (.int .u8 (P[L.length / 8]?.getD 0 + 2 ^ (L.length % 8) * b01 bt)) := by
          simp [nums, List.map_set]
        rw [hnum]
        exact h2
    · go_wp2
      go_end0
      obtain rfl : k = m := by omega
      refine ⟨rfl, .slice A (nby L) c, ?_⟩
      rw [Int.toNat_natCast, HL.out]
      exact hH

end Go.Proofs.Ytpnnalkihcemhaa.Wr
