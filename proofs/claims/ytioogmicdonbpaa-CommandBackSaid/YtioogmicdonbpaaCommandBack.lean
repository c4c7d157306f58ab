/- The law CommandBack: what is put, behind whatever bits, is taken. For all lists and numbers; no condition. Here: the walk. -/
import Derived.Test.YtioogmicdonbpaaCPut
import Derived.Test.YtioogmicdonbpaaCTake
import Derived.Test.YtioogmicdonbpaaCSame
import Derived.Test.YtioogmicdonbpaaDone
import Derived.Test.YtioogmicdonbpaaAwake09
import Derived.Test.YtioogmicdonbpaaCmdOpen
import Derived.Test.YtioogmicdonbpaaBitsBack
set_option linter.unusedVariables false
set_option linter.unusedSimpArgs false
namespace Go.Proofs.Ytioogmicdonbpaa.Cmds
open Go.RowKit Go.Proofs.Ytioogmicdonbpaa.Mem Go.Proofs.Ytioogmicdonbpaa.Open Go.Proofs.Ytioogmicdonbpaa.Num Go.Proofs.Ytioogmicdonbpaa.Bits Go.Proofs.Ytioogmicdonbpaa.Wr

theorem HasR.belowed {W : World} {B : Nat} {w w' : World} {b : Nat} {e : TypeId} {bs : List Int} {at_ : Nat} {fail : Bool} {F : List Ent} (h : HasR W B w b e bs at_ fail F) (hb : Below w.heap.size w w') : HasR W B w' b e bs at_ fail F := by
  obtain ⟨v, h⟩ := h
  exact ⟨v, Holds.belowed h hb⟩
theorem HasR.belowW {W : World} {B : Nat} {w : World} {b : Nat} {e : TypeId} {bs : List Int} {at_ : Nat} {fail : Bool} {F : List Ent} (h : HasR W B w b e bs at_ fail F) : Below B W w := by
  obtain ⟨v, h⟩ := h
  exact h.below

set_option maxHeartbeats 1000000 in
theorem commandBack_core (w : World) (v : Value) (l : List Cmd) (hv : RdL w v 6 (l.map Cmd.cells)) (hwf : ∀ c, c ∈ l → c.wf) (a : Int) (ha0 : 0 ≤ a) (ha1 : a ≤ 255) :
    Calls Try.prog 6 #[v, .int .u8 a] w fun e' w' => e' = .returned (.bool true) ∧ Below w.heap.size w w' := by
  have HWF := Lib.hid hwf
  have HV := Lib.hid hv
  have hrow : ∀ w' rb, rowB l = rb → Below w.heap.size w w' → Calls Try.prog 13 #[v] w' fun e w'' => e = .returned (.bool rb) ∧ Below w'.heap.size w' w'' := fun w' rb hrb hb => by
    have := row w' _ l (RdL.below HV.out hb) HWF.out
    rw [hrb] at this
    exact this
  have HROW := Lib.hid hrow
  clear hrow hwf hv
  cases hrb : rowB l with
  | false =>
    have HRB := Lib.hid hrb
    clear hrb
    go_enter Try.func6, Try.ntmps6
    go_wp2_with fail
    refine (awake09 _).mono ?_
    rintro e' w1 ⟨rfl, h1⟩
    go_wp2_with fail
    refine (HROW.out _ _ HRB.out h1).mono ?_
    rintro e' w2 ⟨rfl, h2⟩
    have h3 := h1.trans (h2.mono h1.size)
    clear h1 h2
    go_wp2_with fail
    refine (awake09 _).mono ?_
    rintro e' w3 ⟨rfl, h4⟩
    go_wp2_with fail
    go_ret
    exact ⟨rfl, h3.trans (h4.mono h3.size)⟩
  | true =>
    have hir := (rowB_true l).1 hrb
    have hle := rowBits_le l hir
    have HRB := Lib.hid hrb
    have HIR := Lib.hid hir
    clear hrb hir
    obtain ⟨m, hm⟩ : ∃ m : Nat, a % 60 = (m : Int) := ⟨(a % 60).toNat, by omega⟩
    have hm60 : m < 60 := by omega
    have tm : IntKind.i64.wrap (m : Int) = (m : Int) := i64a _ (by omega) (by omega)
    have ta : IntKind.u64.wrap a = a := u64a _ (by omega) (by omega)
    have tm2 : IntKind.u8.wrap (m : Int) = (m : Int) := u8a _ (by omega) (by omega)
    go_enter Try.func6, Try.ntmps6
    go_wp2_with fail
    refine (awake09 _).mono ?_
    rintro e' w1 ⟨rfl, h1⟩
    go_wp2_with fail
    refine (HROW.out _ _ HRB.out h1).mono ?_
    rintro e' w2 ⟨rfl, h2⟩
    have h3 := h1.trans (h2.mono h1.size)
    have hf := fresh (Holds.belowed (Holds.start w) h3) 33
    have HF := Lib.hid hf
    clear h1 h2 h3 hf
    go_wp2_with fail
    generalize w2.alloc (.cells #[.slice none 0 0, .int .i64 0] 33) = w3 at *
    generalize w2.heap.size = b1 at *
    have hp := put w w.heap.size w3 b1 33 [] [] a (m : Int) HF.out (by omega) (by omega) (by omega) (by omega) (by decide)
    have HP := Lib.hid hp
    clear hp HF
    refine HP.out.mono ?_
    rintro e' w4 ⟨rfl, h4⟩
    rw [List.nil_append, Int.toNat_natCast] at h4
    have hcp := cput w _ b1 33 (bitsOf a m) [] _ l h4 HV.out HWF.out (by rw [bitsOf_length]; omega)
    rw [HRB.out, if_pos rfl] at hcp
    have HCP := Lib.hid hcp
    clear hcp h4 HP
    go_wp2_with fail
    refine HCP.out.mono ?_
    rintro e' w5 ⟨rfl, h5⟩
    have hlen : (bitsOf a m ++ rowBits l).length = m + (rowBits l).length := by rw [List.length_append, bitsOf_length]
    have hbk : bytesOk (pack (bitsOf a m ++ rowBits l)) := ⟨by rw [pack_length]; unfold nby; omega, pack_byte _⟩
    have hpad := bitsB_pack (bitsOf a m ++ rowBits l)
    have hpl := pack_length (bitsOf a m ++ rowBits l)
    have hnb : 8 * nby (bitsOf a m ++ rowBits l) < (bitsOf a m ++ rowBits l).length + 8 ∧ (bitsOf a m ++ rowBits l).length ≤ 8 * nby (bitsOf a m ++ rowBits l) := by unfold nby; omega
    have HBK := Lib.hid hbk
    have HPAD := Lib.hid hpad
    have HNB := Lib.hid hnb
    have HLEN := Lib.hid hlen
    have hb := Wr.bytes w w.heap.size w5 b1 33 _ _ h5 (by omega)
    have HB := Lib.hid hb
    clear hpad hnb hbk hb h5 HCP
    go_wp2_with fail
    refine HB.out.mono ?_
    rintro e' w6 ⟨v3, rfl, v4, h6⟩
    have r3 := h6.up2.rd
    rw [← hpl] at r3
    have hn := rnew w w.heap.size _ _ _ (pack (bitsOf a m ++ rowBits l)) h6 r3 HBK.out
    have HN := Lib.hid hn
    clear h6 r3 hn HB
    go_wp2_with fail
    refine HN.out.mono ?_
    rintro e' w7 ⟨rb, rfl, h7⟩
    generalize hBS : pack (bitsOf a m ++ rowBits l) = BS at *
    have hbl : 8 * BS.length = 8 * nby (bitsOf a m ++ rowBits l) := by rw [hpl]
    clear hBS hpl hlen
    have ht := rtake w w.heap.size w7 rb 65 BS 0 _ (m : Int) h7 HBK.out (by omega) (by omega) (by have := HLEN.out; have := HNB.out; omega)
    have HT := Lib.hid ht
    clear ht h7 HN
    go_wp2_with fail
    refine HT.out.mono ?_
    rintro e' w8 ⟨rfl, h8⟩
    rw [Int.toNat_natCast, Nat.zero_add] at h8
    have hd : (bitsB BS).drop m = rowBits l ++ List.replicate (8 * nby (bitsOf a m ++ rowBits l) - (bitsOf a m ++ rowBits l).length) false := by
      rw [HPAD.out, List.append_assoc, List.drop_left' (bitsOf_length _ _)]
    have hc := ctake w w8 rb 65 BS m _ l _ h8 HBK.out (by have := HLEN.out; have := HNB.out; omega) HIR.out HWF.out hd
    have HC := Lib.hid hc
    clear hc h8 hd HT
    go_wp2_with fail
    refine HC.out.mono ?_
    rintro e' w9 ⟨v9, rfl, h9, hr9⟩
    have hs := csame w9 v9 v l hr9 (RdL.below HV.out (HasR.belowW h9))
    have HS := Lib.hid hs
    have H9 := Lib.hid h9
    clear hs h9 hr9 HC
    go_wp2_with fail
    refine HS.out.mono ?_
    rintro e' w10 ⟨rfl, h10⟩
    have hh := HasR.belowed H9.out h10
    have hdn := rdone w w.heap.size w10 rb 65 BS (m + (rowBits l).length) false _ hh HBK.out (by have := HLEN.out; have := HNB.out; omega)
    have hpd : (bitsB BS).drop (m + (rowBits l).length) = List.replicate (8 * nby (bitsOf a m ++ rowBits l) - (bitsOf a m ++ rowBits l).length) false := by
      rw [HPAD.out, ← HLEN.out, List.drop_left]
    rw [hpd, val_replicate] at hdn
    have h8 : 8 * BS.length - (m + (rowBits l).length) < 8 := by
      have := HLEN.out
      have := HNB.out
      omega
    rw [decide_eq_true h8] at hdn
    have HDN := Lib.hid hdn
    have hbel := HasR.belowW hh
    have hsz : w.heap.size ≤ w10.heap.size := by obtain ⟨_, hq⟩ := hh; exact hq.size
    clear hdn hpd h8 hh h10 HS H9
    go_wp2_with fail
    refine HDN.out.mono ?_
    rintro e' w11 ⟨rfl, hd⟩
    go_wp2_with fail
    go_ret
    exact ⟨rfl, Go.Proofs.YtioogmicdonbpaaW.PrintWords.below_then hbel hsz hd.below⟩

theorem commandBack (w : World) {H : Type} {enc : TypeId × Value → H} {base base' : Nat} {sp : Nat → Bool} {held : Bool} {d : DataW H} {ps : List MemPlace} {r : Reach} (v : Value)
    (hok : Value.okWide Try.prog w r base' 22 v) (h : DataW.Trod enc Try.prog w base sp held 22 v d ps) (a : Int) (wa : (Lit.int .u8 a).wf = true) :
    Calls Try.prog 6 #[v, .int .u8 a] w fun e' w' => e' = .returned (.bool true) ∧ Below w.heap.size w w' := by
  obtain ⟨l, hv, hwf⟩ := open_cmds hok h
  simp [Lit.wf, IntKind.min, IntKind.max, IntKind.signed, IntKind.bits] at wa
  exact commandBack_core w v l hv hwf a (by omega) (by omega)

end Go.Proofs.Ytioogmicdonbpaa.Cmds
