/- The reader of bits: what Take gives. -/
import Derived.Test.YtpnnalkihcemhaaRd
set_option linter.unusedVariables false
set_option linter.unusedSimpArgs false
namespace Go.Proofs.Ytpnnalkihcemhaa.Wr
open Go.RowKit Go.Proofs.Ytpnnalkihcemhaa.Mem Go.Proofs.Ytpnnalkihcemhaa.Bits Go.Proofs.Ytpnnalkihcemhaa.Num Go.Proofs.YtpnnalkihcemhaaW.PrintWords

set_option maxHeartbeats 1000000 in
set_option maxRecDepth 100000 in
theorem rtake (W : World) (B : Nat) (w : World) (b : Nat) (e : TypeId) (bs : List Int) (at_ : Nat) (F : List Ent) (n : Int) (hw : HasR W B w b e bs at_ false F) (hb : bytesOk bs)
    (hn0 : 0 ≤ n) (hn : n ≤ 64) (hle : (at_ : Int) + n ≤ 8 * (bs.length : Int)) :
    Calls Try.prog 44 #[.pointer (some ⟨b, 0, none⟩), .int .i64 n] w fun e' w' => e' = .returned (.int .u64 (val (((bitsB bs).drop at_).take n.toNat))) ∧ HasR W B w' b e bs (at_ + n.toNat) false F := by
  obtain ⟨m, rfl⟩ := Int.eq_ofNat_of_zero_le hn0
  have hat : at_ ≤ 8 * bs.length := by omega
  obtain ⟨v, hH⟩ := hw
  have c2 := hH.cell 2 (v := .bool false) rfl
  have hl := hb.1
  have t0 : decide ((m : Int) < 0) = false := by simp
  have t1 : decide (64 < (m : Int)) = false := by simp; omega
  have t2 : decide (8 * (bs.length : Int) - (at_ : Int) < (m : Int)) = false := by simp; omega
  have HL := Lib.hid (rleft W B w b e bs at_ false F ⟨v, hH⟩ hb hat)
  have HB := Lib.hid hb.2
  clear hb
  go_enter Try.func44, Try.ntmps44
  go_wp2_with fail
  refine HL.out.mono ?_
  rintro e' w1 ⟨rfl, hd⟩
  obtain ⟨nn, rfl⟩ := hd.out
  have H1 := Lib.hid (hH.drewN nn)
  clear hH c2 HL hd
  go_wp2_with fail
  go_loopw [5, 35] (fun xs i wr => ∃ k : Nat, k ≤ m ∧ i = .int .i64 k ∧ xs = .int .u64 (val (((bitsB bs).drop at_).take k)) ∧ HasR W B wr b e bs (at_ + k) false F) (fun _ i _ => m - (intOf i).toNat)
  case atStart => exact ⟨0, Nat.zero_le _, rfl, by simp [val], v, H1.out⟩
  case round =>
    obtain ⟨k, hk, rfl, rfl, v, hH⟩ := hrel
    clear H1
    by_cases hkm : k < m
    · obtain ⟨g, cp, rfl, hcp, hBg, hgl⟩ := hH.up1.row (by omega)
      have hq : (at_ + k) / 8 < bs.length := by omega
      obtain ⟨cb, hcb⟩ : ∃ cb, bs[(at_ + k) / 8]? = some cb := ⟨_, List.getElem?_eq_getElem hq⟩
      have hcr := HB.out cb (List.mem_of_getElem? hcb)
      have hbit := bitsB_get bs (at_ + k) cb hcb
      have hvs := val_step ((bitsB bs).drop at_) k _ (by rw [List.getElem?_drop]; exact hbit)
      have hvr := val_take_range ((bitsB bs).drop at_) k
      have hor := or_bit64' (val (((bitsB bs).drop at_).take k)) cb ((at_ + k) % 8) k hvr.1 hvr.2 (by omega) (by omega) hcr.1 hcr.2
      have HV := Lib.hid hvs
      have HO := Lib.hid hor
      clear hvs hor hbit
      have hx64 : val (((bitsB bs).drop at_).take k) < 18446744073709551616 := by
        have : (2 : Int) ^ k ≤ 2 ^ 64 := by exact_mod_cast Nat.pow_le_pow_right (by decide) (show k ≤ 64 by omega)
        have h2 := hvr.2
        omega
      have hx0 := hvr.1
      generalize val (((bitsB bs).drop at_).take k) = x at *
      clear hvr
      have c0 := hH.cell 0 (v := .slice (some ⟨g, 0, none⟩) bs.length cp) rfl
      have c1 := hH.cell 1 (v := .int .i64 ((at_ + k : Nat) : Int)) rfl
      have f1 := hH.frozen 1
      have hq0 : (0 : Int) ≤ ((at_ + k : Nat) : Int) / 8 := by omega
      have hq1 : ((at_ + k : Nat) : Int) / 8 < (bs.length : Int) := by omega
      have cq : wr.cell? ⟨g, (at_ + k) / 8, none⟩ = some (.int .u8 cb) := by
        rw [hH.up1.rcell ((at_ + k) / 8) (by omega)]
        simp [nums, hcb]
      have hwq : IntKind.i64.wrap ((at_ + k : Nat) / 8 : Int) = ((at_ + k : Nat) : Int) / 8 := by rw [wrap_i64]; unfold wrap64; omega
      have htq : (((at_ + k : Nat) : Int) / 8).toNat = (at_ + k) / 8 := by omega
      have HW := Lib.hid hH
      clear hH hcb
      go_wp2_with fail
      go_quiet (fail)
      go_wp2_with fail
      refine ⟨⟨k + 1, by omega, by go_num, by rw [HO.out, HV.out], .slice (some ⟨g, 0, none⟩) bs.length cp, ?_⟩, by simp [intOf]; omega⟩
      have h2 := (HW.out.drewN nq).set 1 (.int .i64 ((at_ : Int) + (k : Int) + 1))
      rw [show ((at_ + (k + 1) : Nat) : Int) = (at_ : Int) + (k : Int) + 1 by omega]
      exact h2
    · go_wp2
      go_ret
      obtain rfl : k = m := by omega
      exact ⟨rfl, v, hH⟩

end Go.Proofs.Ytpnnalkihcemhaa.Wr
