/- The law BitsBack: what is put is taken, one by one, and then all is read. For all lists; no condition. Here: the walk. -/
import Derived.Test.YtioogmicdonbpaaSmall
import Derived.Test.YtioogmicdonbpaaAwake06
import Derived.Test.YtioogmicdonbpaaOps06
import Derived.Test.YtioogmicdonbpaaRSmall
import Derived.Deep.RegionHeld3
set_option linter.unusedVariables false
set_option linter.unusedSimpArgs false
namespace Go.Proofs.Ytioogmicdonbpaa.Wr
open Go.RowKit Go.Proofs.Ytioogmicdonbpaa.Mem Go.Proofs.Ytioogmicdonbpaa.Bits Go.Proofs.Ytioogmicdonbpaa.Num Go.Proofs.Ytioogmicdonbpaa.Open Go.Proofs.YtioogmicdonbpaaW.PrintWords

theorem _root_.Go.Proofs.Ytioogmicdonbpaa.Mem.Holds.only2 {W w : World} {B : Nat} {x0 x1 : Ent} {F : List Ent} (h : Holds W B w (x0 :: x1 :: F)) : Holds W B w [x0, x1] := by
  refine ⟨h.below, h.size, fun e he => h.each e (by simp at he ⊢; rcases he with h | h <;> simp [h]), ?_⟩
  have hs : [x0, x1].Sublist (x0 :: x1 :: F) := by simp
  exact h.nodup.sublist (hs.filterMap Ent.key)

theorem flat_prefix (l : List (Bool × Int × Int)) (k : Nat) (o : Bool × Int × Int) (h : l[k]? = some o) : ∃ tl, (l.flatMap opBits).drop ((l.take k).flatMap opBits).length = opBits o ++ tl := by
  refine ⟨(l.drop (k + 1)).flatMap opBits, ?_⟩
  obtain ⟨hk, rfl⟩ := List.getElem?_eq_some_iff.1 h
  have e : l.flatMap opBits = (l.take k).flatMap opBits ++ (opBits l[k] ++ (l.drop (k + 1)).flatMap opBits) := by
    have h1 : l = l.take k ++ l[k] :: l.drop (k + 1) := by rw [← List.drop_eq_getElem_cons hk, List.take_append_drop]
    have h2 := congrArg (fun z => List.flatMap opBits z) h1
    simp only [List.flatMap_append, List.flatMap_cons] at h2
    exact h2
  rw [e, List.drop_left]

set_option maxHeartbeats 2000000 in
set_option maxRecDepth 100000 in
theorem bitsBack_core (w : World) (v : Value) (ops : List (Bool × Int × Int)) (hv : RdL w v 3 (ops.map opCells)) (hwf : ∀ o, o ∈ ops → opWf o) :
    Calls Try.prog 11 #[v] w fun e' w' => e' = .returned (.bool true) ∧ Below w.heap.size w w' := by
  obtain ⟨A, c, rfl, hc, hm, hr⟩ := hv.form (by decide)
  have hm2 : c ≤ 9223372036854775807 := by unfold maxLen at hm; omega
  clear hm
  simp only [List.length_map] at *
  have HR := Lib.hid hr
  have HWF := Lib.hid hwf
  clear hr hv hwf
  have HK : ∀ k, k < ops.length → ∃ b off s x n, A = some ⟨b, off, none⟩ ∧ b < w.heap.size ∧ ops[k]? = some (s, x, n) ∧ opWf (s, x, n) ∧ w.cell? ⟨b, off + k * 3, none⟩ = some (.bool s) ∧ w.cell? ⟨b, off + k * 3 + 1, none⟩ = some (.int .u64 x) ∧ w.cell? ⟨b, off + k * 3 + 2, none⟩ = some (.int .i64 n) := by
    intro k hk
    obtain ⟨b, off, e1, hlt, h4⟩ := HR.out k hk
    obtain ⟨⟨s, x, n⟩, ho⟩ : ∃ o, ops[k]? = some o := ⟨_, List.getElem?_eq_getElem hk⟩
    have h5 := h4 (opCells (s, x, n)) (by simp [ho])
    exact ⟨b, off, s, x, n, e1, hlt, ho, HWF.out _ (List.mem_of_getElem? ho), h5 0 _ rfl, h5 1 _ rfl, h5 2 _ rfl⟩
  have HK2 := Lib.hid HK
  clear HK HR HWF
  by_cases hbig : 200 < ops.length
  · have hb : (200 : Int) < (ops.length : Int) := by omega
    go_enter Try.func11, Try.ntmps11
    go_wp2_with fail
    refine (awake06 _ _ _ _ (Holds.start w)).mono ?_
    rintro e' w1 ⟨rfl, h1⟩
    go_wp2_with fail
    refine (awake06 _ _ _ _ h1).mono ?_
    rintro e' w2 ⟨rfl, h2⟩
    go_wp2_with fail
    go_ret
    exact ⟨rfl, h2.below⟩
  · have hb : ¬ (200 : Int) < (ops.length : Int) := by omega
    go_enter Try.func11, Try.ntmps11
    go_wp2_with fail
    refine (awake06 _ _ _ _ (Holds.start w)).mono ?_
    rintro e' w1 ⟨rfl, h1⟩
    have H3 := Lib.hid (fresh h1 33)
    clear h1
    go_wp2_with fail
    generalize w1.heap.size = b1 at *
    go_loopw [4] (fun i wr => ∃ k : Nat, k ≤ ops.length ∧ i = .int .i64 k ∧ HasW w w.heap.size wr b1 33 ((ops.take k).flatMap opBits) [])
      (fun i _ => ops.length - (intOf i).toNat)
    case atStart => exact ⟨0, Nat.zero_le _, rfl, H3.out⟩
    case round =>
      obtain ⟨k, hk, rfl, v1, hH⟩ := hrel
      clear H3
      have hlen := opsBits_len (ops.take k)
      have hlen2 : ((ops.take k).flatMap opBits).length ≤ 16000 := by rw [List.length_take] at hlen; omega
      clear hlen
      by_cases hkn : k < ops.length
      · obtain ⟨b, off, s, x, n, rfl, hlt, hok, hwf, d0, d1, d2⟩ := HK2.out k hkn
        have HN := Lib.hid (take_flat ops k _ hok)
        generalize hL : (ops.take k).flatMap opBits = L at *
        have hbel := hH.below
        have e0 := (hbel.cell (p := ⟨b, off + k * 3, none⟩) hlt).trans d0
        have e1 := (hbel.cell (p := ⟨b, off + k * 3 + 1, none⟩) hlt).trans d1
        have e2 := (hbel.cell (p := ⟨b, off + k * 3 + 2, none⟩) hlt).trans d2
        have k0 : (0 : Int) ≤ (k : Int) := by omega
        have k1 : (k : Int) < (ops.length : Int) := by omega
        have hob : opBits (s, x, n) = if s = true then smallB (zig (wrap64 x)).toNat else if 0 ≤ n ∧ n ≤ 64 then bitsOf x n.toNat else [] := rfl
        generalize hO : opBits (s, x, n) = O at *
        have HOB := Lib.hid hob
        clear hob hO hok
        have hwx := wrap64_range x
        by_cases hsm : s = true
        · subst hsm
          have hOe := Lib.hid (HOB.out.trans (if_pos rfl))
          go_wp2_with fail
          refine (small w w.heap.size _ _ 33 L _ (wrap64 x) ⟨v1, hH⟩ hwx.1 hwx.2 (by omega)).mono ?_
          rintro e' w2 ⟨rfl, h2⟩
          rw [← hOe.out] at h2
          have H2 := Lib.hid h2
          clear e0 e1 e2 hbel hH h2
          go_wp2_with fail
          refine ⟨⟨k + 1, by omega, by go_num, ?_⟩, by simp [intOf]; omega⟩
          rw [HN.out]
          exact H2.out
        · obtain rfl : s = false := by simpa using hsm
          have hOe := Lib.hid (HOB.out.trans (if_neg (by decide)))
          go_wp2_with fail
          go_still_tail 11, (by kernel_rfl)
          go_wp2_with fail
          have hputs : Calls Try.prog 23 #[.pointer (some ⟨b1, 0, none⟩), .int .u64 x, .int .i64 n] wr.drew fun e' w' => e' = .returned (.tuple #[]) ∧ HasW w w.heap.size w' b1 33 (L ++ O) [] := by
            rw [hOe.out]
            by_cases hn : 0 ≤ n ∧ n ≤ 64
            · rw [if_pos hn]
              exact put w w.heap.size _ _ 33 L _ x n ⟨v1, hH.drew⟩ hwf.1.1 hwf.1.2 hn.1 hn.2 (by omega)
            · rw [if_neg hn, List.append_nil]
              exact put_not w w.heap.size _ _ 33 L _ x n ⟨v1, hH.drew⟩ (by omega)
          refine hputs.mono ?_
          rintro e' w2 ⟨rfl, h2⟩
          have H2 := Lib.hid h2
          clear e0 e1 e2 hbel hH h2 hputs
          go_wp2_with fail
          refine ⟨⟨k + 1, by omega, by go_num, ?_⟩, by simp [intOf]; omega⟩
          rw [HN.out]
          exact H2.out
      · obtain rfl : k = ops.length := by omega
        rw [List.take_of_length_le (Nat.le_refl _)] at hH hlen2
        have hbk : bytesOk (pack (ops.flatMap opBits)) := ⟨by rw [pack_length]; unfold nby; omega, pack_byte _⟩
        have HBK := Lib.hid hbk
        have hpad := bitsB_pack (ops.flatMap opBits)
        have HPAD := Lib.hid hpad
        have hpl := pack_length (ops.flatMap opBits)
        have hnb : 8 * nby (ops.flatMap opBits) < (ops.flatMap opBits).length + 8 ∧ (ops.flatMap opBits).length ≤ 8 * nby (ops.flatMap opBits) := by unfold nby; omega
        have HNB := Lib.hid hnb
        clear hpad hnb hbk
        go_wp2_with fail
        refine (bytes w w.heap.size _ _ 33 _ _ ⟨v1, hH⟩ (by omega)).mono ?_
        rintro e' w2 ⟨v3, rfl, v4, h2⟩
        have r3 := h2.up2.rd
        rw [← hpl] at r3
        have H2 := Lib.hid h2
        have R3 := Lib.hid r3
        clear hH h2 r3
        go_wp2_with fail
        refine (rnew w w.heap.size _ _ _ (pack (ops.flatMap opBits)) H2.out R3.out HBK.out).mono ?_
        rintro e' w3 ⟨rb, rfl, h2⟩
        obtain ⟨v5, h2⟩ := h2
        have H4 : Hid (HasR w w.heap.size w3 rb 65 (pack (ops.flatMap opBits)) 0 false []) := ⟨v5, h2.only2⟩
        clear H2 R3 h2
        have hAT : ∀ k o, ops[k]? = some o → ∃ tl, (bitsB (pack (ops.flatMap opBits))).drop ((ops.take k).flatMap opBits).length = opBits o ++ tl := fun k o ho => by
          obtain ⟨tl, htl⟩ := flat_prefix ops k o ho
          rw [HPAD.out, List.drop_append_of_le_length, htl, List.append_assoc]
          · exact ⟨_, rfl⟩
          · have := congrArg List.length htl
            have h1 := take_flat ops k o ho
            have h3 : ((ops.take k).flatMap opBits).length ≤ (ops.flatMap opBits).length := by
              have e : ops.flatMap opBits = (ops.take k).flatMap opBits ++ (ops.drop k).flatMap opBits := by
                rw [← List.flatMap_append, List.take_append_drop]
              rw [e, List.length_append]; omega
            exact h3
        have HAT := Lib.hid hAT
        clear hAT
        generalize hBS : pack (ops.flatMap opBits) = BS at *
        have hbl : 8 * BS.length = 8 * nby (ops.flatMap opBits) := by rw [hpl]
        have HBL := Lib.hid hbl
        clear hbl hpl hBS
        go_wp2_with fail
        go_loopw [6] (fun i wr => ∃ k : Nat, k ≤ ops.length ∧ i = .int .i64 k ∧ HasR w w.heap.size wr rb 65 BS ((ops.take k).flatMap opBits).length false [])
          (fun i _ => ops.length - (intOf i).toNat)
        case atStart => exact ⟨0, Nat.zero_le _, rfl, H4.out⟩
        case round =>
          obtain ⟨k, hk, rfl, v1, hH⟩ := hrel
          clear H4
          by_cases hkn : k < ops.length
          · obtain ⟨b, off, s, x, n, rfl, hlt, hok, hwf, d0, d1, d2⟩ := HK2.out k hkn
            have hsl : (ops.take (k + 1)).flatMap opBits = (ops.take k).flatMap opBits ++ opBits (s, x, n) := take_flat ops k _ hok
            obtain ⟨tl, htl⟩ := HAT.out k _ hok
            have hsum : ((ops.take k).flatMap opBits).length + (opBits (s, x, n)).length ≤ 8 * BS.length := by
              have := congrArg List.length htl
              rw [List.length_drop, bitsB_length, List.length_append] at this
              have h3 : ((ops.take k).flatMap opBits).length ≤ (ops.flatMap opBits).length := by
                have e : ops.flatMap opBits = (ops.take k).flatMap opBits ++ (ops.drop k).flatMap opBits := by
                  rw [← List.flatMap_append, List.take_append_drop]
                rw [e, List.length_append]; omega
              have := HBL.out
              have := HNB.out
              omega
            have HSL := Lib.hid hsl
            have HTL := Lib.hid htl
            have HSUM := Lib.hid hsum
            generalize hL : ((ops.take k).flatMap opBits).length = LL at *
            have HLL := Lib.hid hL
            have hbel := hH.below
            have e0 := (hbel.cell (p := ⟨b, off + k * 3, none⟩) hlt).trans d0
            have e1 := (hbel.cell (p := ⟨b, off + k * 3 + 1, none⟩) hlt).trans d1
            have e2 := (hbel.cell (p := ⟨b, off + k * 3 + 2, none⟩) hlt).trans d2
            have k0 : (0 : Int) ≤ (k : Int) := by omega
            have k1 : (k : Int) < (ops.length : Int) := by omega
            have hob : opBits (s, x, n) = if s = true then smallB (zig (wrap64 x)).toNat else if 0 ≤ n ∧ n ≤ 64 then bitsOf x n.toNat else [] := rfl
            clear hsl htl hsum hL hok
            generalize hO : opBits (s, x, n) = O at *
            have HOB := Lib.hid hob
            clear hob hO
            have hwx := wrap64_range x
            have hLL8 : LL ≤ 8 * BS.length := by have := HSUM.out; omega
            by_cases hsm : s = true
            · subst hsm
              have hOe := Lib.hid (HOB.out.trans (if_pos rfl))
              have hg : smallGives BS LL = (wrap64 x, LL + O.length, false) := by
                have hz := zig_range (wrap64 x) hwx.1 hwx.2
                rw [gives_some (by rw [HTL.out, hOe.out]; exact readS_put _ 0 tl (by omega) (by rw [Nat.pow_zero]; omega) (fun h => by omega)), unzig_zig]
                have h8 := (smallB_len (zig (wrap64 x)).toNat).1
                rw [hOe.out, show 8 * ((smallB (zig (wrap64 x)).toNat).length / 8) = (smallB (zig (wrap64 x)).toNat).length by omega]
              have hcs : ∀ wx, HasR w w.heap.size wx rb 65 BS LL false [] → Calls Try.prog 33 #[.pointer (some ⟨rb, 0, none⟩)] wx fun e' w' => e' = .returned (.int .i64 (wrap64 x)) ∧ HasR w w.heap.size w' rb 65 BS (LL + O.length) false [] := fun wx hx => by
                have := rsmallr w w.heap.size _ rb 65 BS LL [] hx HBK.out hLL8
                rw [hg] at this
                exact this
              have HCS := Lib.hid hcs
              clear hg hcs
              go_wp2_with fail
              go_region_held3 (fun w' => w'.cell? ⟨b, off + k * 3 + 1, none⟩ = some (.int .u64 x)) (first | assumption | exact e1) (first | (go_at_call 33; refine (HCS.out _ ⟨v1, hH.drew⟩).mono ?_; rintro e' w4 ⟨rfl, v2, h5⟩; have e4 := (h5.below.cell (p := ⟨b, off + k * 3 + 1, none⟩) hlt).trans d1; have H6 := Lib.hid h5; clear h5))
              have hnx : (wrap64 x != IntKind.i64.wrap x) = false := by rw [wrap_i64]; simp
              go_wp2_with fail
              refine ⟨⟨k + 1, by omega, by go_num, ?_⟩, by simp [intOf]; omega⟩
              rw [HSL.out, List.length_append, HLL.out]
              exact ⟨_, H6.out⟩
            · obtain rfl : s = false := by simpa using hsm
              have hOe := Lib.hid (HOB.out.trans (if_neg (by decide)))
              by_cases hn : 0 ≤ n ∧ n ≤ 64
              · obtain ⟨hn0, hn1⟩ := hn
                have t0 : decide (n < 0) = false := by simp; omega
                have t1 : decide (64 < n) = false := by simp; omega
                have hO2 : O = bitsOf x n.toNat := by rw [hOe.out, if_pos ⟨hn0, hn1⟩]
                have hct : ∀ wx, HasR w w.heap.size wx rb 65 BS LL false [] → Calls Try.prog 25 #[.pointer (some ⟨rb, 0, none⟩), .int .i64 n] wx fun e' w' => e' = .returned (.int .u64 (x % 2 ^ n.toNat)) ∧ HasR w w.heap.size w' rb 65 BS (LL + O.length) false [] := fun wx hx => by
                  have hs := HSUM.out
                  rw [hO2, bitsOf_length] at hs
                  have := rtake w w.heap.size _ rb 65 BS LL [] n hx HBK.out hn0 hn1 (by omega)
                  rw [HTL.out, hO2, List.take_append_of_le_length (by rw [bitsOf_length]; exact Nat.le_refl _), List.take_of_length_le (by rw [bitsOf_length]; exact Nat.le_refl _), val_bitsOf _ _ hwf.1.1] at this
                  rw [hO2, bitsOf_length]
                  exact this
                have HCT := Lib.hid hct
                clear hct hO2
                by_cases h64 : n < 64
                · have hx0 := hwf.1.1
                  have hpow : (2 : Int) ^ n.toNat ≤ 9223372036854775808 ∧ 0 < (2 : Int) ^ n.toNat := by
                    refine ⟨?_, Int.pow_pos (by decide)⟩
                    have : (2 : Int) ^ n.toNat ≤ 2 ^ 63 := by exact_mod_cast Nat.pow_le_pow_right (by decide) (show n.toNat ≤ 63 by omega)
                    simpa using this
                  obtain ⟨hp1, hp0⟩ := hpow
                  have hpw : IntKind.u64.wrap (2 ^ n.toNat) = 2 ^ n.toNat := by rw [wrap_u64]; exact Int.emod_eq_of_lt (by omega) (by omega)
                  have hpn : ¬ (2 : Int) ^ n.toNat = 0 := by omega
                  go_wp2_with fail
                  refine (HCT.out _ ⟨v1, hH⟩).mono ?_
                  rintro e' w4 ⟨rfl, h5⟩
                  have H6 := Lib.hid h5
                  clear h5
                  go_wp2_with fail
                  refine ⟨⟨k + 1, by omega, by go_num, ?_⟩, by simp [intOf]; omega⟩
                  rw [HSL.out, List.length_append, HLL.out]
                  exact H6.out
                · obtain rfl : n = 64 := by omega
                  have hx64 : x % 2 ^ (64 : Int).toNat = x := by
                    have e : (2 : Int) ^ (64 : Int).toNat = 18446744073709551616 := by decide
                    rw [e]
                    exact Int.emod_eq_of_lt hwf.1.1 hwf.1.2
                  rw [hx64] at HCT
                  clear hx64
                  go_wp2_with fail
                  refine (HCT.out _ ⟨v1, hH⟩).mono ?_
                  rintro e' w4 ⟨rfl, h5⟩
                  have H6 := Lib.hid h5
                  clear h5
                  go_wp2_with fail
                  refine ⟨⟨k + 1, by omega, by go_num, ?_⟩, by simp [intOf]; omega⟩
                  rw [HSL.out, List.length_append, HLL.out]
                  exact H6.out
              · have hO2 : O = [] := by rw [hOe.out, if_neg hn]
                have HO2 := Lib.hid hO2
                clear hO2
                have fin : HasR w w.heap.size wr rb 65 BS ((ops.take (k + 1)).flatMap opBits).length false [] := by
                  rw [HSL.out, List.length_append, HLL.out, HO2.out]
                  exact ⟨v1, hH⟩
                have FIN := Lib.hid fin
                clear fin
                by_cases hneg : n < 0
                · have t0 : decide (n < 0) = true := by simpa using hneg
                  go_wp2_with fail
                  exact ⟨⟨k + 1, by omega, by go_num, FIN.out⟩, by simp [intOf]; omega⟩
                · have t0 : decide (n < 0) = false := by simpa using hneg
                  have t1 : decide (64 < n) = true := by simp; omega
                  go_wp2_with fail
                  exact ⟨⟨k + 1, by omega, by go_num, FIN.out⟩, by simp [intOf]; omega⟩
          · obtain rfl : k = ops.length := by omega
            rw [List.take_of_length_le (Nat.le_refl _)] at hH
            have hdn := rdone w w.heap.size wr rb 65 BS (ops.flatMap opBits).length false [] ⟨v1, hH⟩ HBK.out (by have := HBL.out; have := HNB.out; omega)
            have hpd : (bitsB BS).drop (ops.flatMap opBits).length = List.replicate (8 * nby (ops.flatMap opBits) - (ops.flatMap opBits).length) false := by
              rw [HPAD.out, List.drop_left]
            rw [hpd, val_replicate] at hdn
            have h8 : 8 * BS.length - (ops.flatMap opBits).length < 8 := by
              have := HBL.out
              have := HNB.out
              omega
            rw [decide_eq_true h8] at hdn
            have HDN := Lib.hid hdn
            clear hdn hpd h8
            go_wp2_with fail
            refine (rok w w.heap.size wr rb 65 BS _ false [] ⟨v1, hH⟩).mono ?_
            rintro e' w4 ⟨rfl, rfl⟩
            have hbel := hH.below
            go_wp2_with fail
            refine HDN.out.mono ?_
            rintro e' w5 ⟨rfl, hd⟩
            go_wp2_with fail
            go_ret
            exact ⟨rfl, below_then hbel hbel.size hd.below⟩

theorem bitsBack (w : World) {H : Type} {enc : TypeId × Value → H} {base base' : Nat} {sp : Nat → Bool} {held : Bool} {d : DataW H} {ps : List MemPlace} {r : Reach} (v : Value)
    (hok : Value.okWide Try.prog w r base' 53 v) (h : DataW.Trod enc Try.prog w base sp held 53 v d ps) :
    Calls Try.prog 11 #[v] w fun e' w' => e' = .returned (.bool true) ∧ Below w.heap.size w w' := by
  obtain ⟨ops, hv, hwf⟩ := open_ops hok h
  exact bitsBack_core w v ops hv hwf

end Go.Proofs.Ytioogmicdonbpaa.Wr
