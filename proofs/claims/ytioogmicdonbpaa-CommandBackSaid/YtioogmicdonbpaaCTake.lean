/- A row of commands taken, of bits that begin with one; by the program. -/
import Derived.Test.YtioogmicdonbpaaRow
import Derived.Test.YtioogmicdonbpaaCTakeP
import Derived.Test.YtioogmicdonbpaaCmdRowsP
import Derived.Deep.Cut
set_option linter.unusedVariables false
set_option linter.unusedSimpArgs false
namespace Go.Proofs.Ytioogmicdonbpaa.Cmds
open Go.RowKit Go.Proofs.Ytioogmicdonbpaa.Mem Go.Proofs.Ytioogmicdonbpaa.Open Go.Proofs.Ytioogmicdonbpaa.Num Go.Proofs.Ytioogmicdonbpaa.Bits Go.Proofs.Ytioogmicdonbpaa.Wr Go.Proofs.YtioogmicdonbpaaW.PrintWords

theorem i8a (a : Int) (h0 : -128 ≤ a) (h1 : a ≤ 127) : IntKind.i8.wrap a = a := by
  simp only [IntKind.wrap, IntKind.bits, IntKind.signed, Bool.true_and]
  split <;> rename_i h <;> simp at h ⊢ <;> omega
theorem u32a (a : Int) (h0 : 0 ≤ a) (h1 : a ≤ 4294967295) : IntKind.u32.wrap a = a := by
  simp [IntKind.wrap, IntKind.bits, IntKind.signed]; omega
theorem u8a (a : Int) (h0 : 0 ≤ a) (h1 : a ≤ 255) : IntKind.u8.wrap a = a := by
  simp [IntKind.wrap, IntKind.bits, IntKind.signed]; omega

theorem drop_cmds (l : List Cmd) (k : Nat) (h : k < l.length) : (l.drop k).flatMap cmdBits = cmdBits (el l k) ++ (l.drop (k + 1)).flatMap cmdBits := by
  obtain ⟨hk, he⟩ := List.getElem?_eq_some_iff.1 (el_get l k h)
  rw [List.drop_eq_getElem_cons h, List.flatMap_cons, he]

theorem cellsL_snoc (l : List Cmd) (k : Nat) (h : k < l.length) : cellsL (l.take (k + 1)) = cellsL (l.take k) ++ (el l k).cells := by
  rw [List.take_add_one, el_get l k h, cellsL_append]
  simp [cellsL]

theorem info_cmdt : (Try.prog.info? 28).map (fun i => (i.zero, i.size, i.bytes)) = some (some (.agg #[.int .u32 0, .int .i8 0, .int .i8 0, .bool false, .int .u32 0, .int .u8 0]), 6, 16) := by kernel_rfl

theorem cclip (w : World) (g n c : Nat) (hn : n ≤ c) : Calls Try.prog 37 #[.slice (some ⟨g, 0, none⟩) n c] w fun e' w' => e' = .returned (.slice (some ⟨g, 0, none⟩) n n) ∧ w = w' := by
  have h1 : (n : Int) ≤ (c : Int) := by omega
  have h2 : (0 : Int) ≤ (n : Int) := by omega
  go_enter Try.func37, Try.ntmps37
  go_wp2_with fail
  go_ret
  exact ⟨rfl, rfl⟩

theorem RdL.below' {w w' : World} {v : Value} {size : Nat} {xs : List (List Value)} (h : RdL w v size xs) (hb : Below w.heap.size w w') : RdL w' v size xs := RdL.below h hb

set_option maxHeartbeats 2000000 in
theorem ctake (W w : World) (b1 : Nat) (e : TypeId) (BS : List Int) (at_ : Nat) (F : List Ent) (l : List Cmd) (tl : List Bool) (hw : HasR W W.heap.size w b1 e BS at_ false F) (hbk : bytesOk BS) (hat : at_ ≤ 8 * BS.length)
    (hir : IsRow l) (hwf : ∀ c, c ∈ l → c.wf) (hd : (bitsB BS).drop at_ = rowBits l ++ tl) :
    Calls Try.prog 26 #[.pointer (some ⟨b1, 0, none⟩)] w fun e' w' => ∃ v, e' = .returned (.tuple #[v, .bool true]) ∧ HasR W W.heap.size w' b1 e BS (at_ + (rowBits l).length) false F ∧ RdL w' v 6 (l.map Cmd.cells) := by
  obtain ⟨i0, hi, hz0, hz1, hz2⟩ := info_parts info_cmdt
  have hd0 : (bitsB BS).drop at_ = bitsOf ((l.length : Int) - 1) 3 ++ (bitsOf (el l 0).num 32 ++ (l.flatMap cmdBits ++ tl)) := by
    rw [hd]; unfold rowBits headBits; simp only [List.append_assoc]
  have hl1 := hir.1.1
  have hl8 := hir.1.2
  have hcz := hwf _ (el_mem l 0 (by omega))
  have hfz := (hir.2 0 (by omega)).1
  have hp1 := rtakeB W W.heap.size w b1 e BS at_ F ((l.length : Int) - 1) 3 _ hw hbk (by decide) (by omega) (by omega) hat hd0
  have hat1 := at_on hat hd0
  have hd1 := drop_on hd0
  have hat2 := at_on hat1 hd1
  have hd2 := drop_on hd1
  have HIR := Lib.hid hir
  have HLL := Lib.hid hl8
  have HWF := Lib.hid hwf
  have HBK := Lib.hid hbk
  have HP1 := Lib.hid hp1
  have HD1 := Lib.hid hd1
  have HD2 := Lib.hid hd2
  have hnum : 1 ≤ (el l 0).num ∧ (el l 0).num ≤ 2147483648 := hfz.1
  have tl1 : IntKind.i64.wrap ((l.length : Int) - 1) = (l.length : Int) - 1 := i64a _ (by omega) (by omega)
  have tl2 : IntKind.i64.wrap ((l.length : Int) - 1 + 1) = (l.length : Int) := by rw [Int.sub_add_cancel]; exact i64a _ (by omega) (by omega)
  have tl3 : (l.length : Int) - 1 + 1 = (l.length : Int) := by omega
  clear hd hd0 hd1 hd2 hir hwf hbk hp1 hcz hfz hw
  go_enter Try.func26, Try.ntmps26
  go_wp2_with fail
  refine HP1.out.mono ?_
  rintro e' w1 ⟨rfl, h1⟩
  have hp2 := rtakeB W W.heap.size w1 b1 e BS (at_ + 3) F (el l 0).num 32 _ h1 HBK.out (by decide) (by omega) (by omega) hat1 HD1.out
  have HP2 := Lib.hid hp2
  clear hp2 h1 HP1
  go_wp2_with fail
  refine HP2.out.mono ?_
  rintro e' w2 ⟨rfl, v2, h2⟩
  have H2 := Lib.hid (h2.nilrow 28 6)
  clear h2 HP2
  go_wp2_with fail
  go_loopw [6, 18] (fun t i wr => ∃ k p : Nat, k ≤ l.length ∧ i = .int .i64 k ∧ p = at_ + 35 + ((l.take k).flatMap cmdBits).length ∧ p ≤ 8 * BS.length ∧ Hid ((bitsB BS).drop p = (l.drop k).flatMap cmdBits ++ tl) ∧
      ∃ v, Holds W W.heap.size wr (.rw t 28 6 k (cellsL (l.take k)) :: .st b1 [v, .int .i64 (p : Int), .bool false] e :: .rw v 5 1 BS.length (nums .u8 BS) :: F))
    (fun _ i _ => l.length - (intOf i).toNat)
  case atStart => exact ⟨0, at_ + 3 + 32, Nat.zero_le _, rfl, by simp, hat2, by rw [List.drop_zero]; exact HD2.out, v2, H2.out⟩
  case round =>
    obtain ⟨k, p, hk, rfl, hp, hpl, HD, v3, hH⟩ := hrel
    clear H2
    by_cases hkn : k < l.length
    · have hcw := HWF.out _ (el_mem l k hkn)
      have hfm := (HIR.out.2 k hkn)
      have hdk := HD.out
      rw [drop_cmds l k hkn, cmdBits] at hdk
      simp only [List.append_assoc] at hdk
      have HN := Lib.hid (take_cmds l k hkn)
      have hx : -127 ≤ (el l k).mx ∧ (el l k).mx ≤ 127 := ⟨hfm.1.2.1, hcw.2.1.2⟩
      have hy : -127 ≤ (el l k).my ∧ (el l k).my ≤ 127 := ⟨hfm.1.2.2.1, hcw.2.2.1.2⟩
      have hvw := hcw.2.2.2.1
      have hfr := hcw.2.2.2.2
      have hff := hfm.1.2.2.2
      have hnk := hfm.2
      have HCL := Lib.hid (cmdBits_length (el l k))
      have HFE := Lib.hid (show cmdLen (el l k) = if (el l k).fire = true then 57 else 17 from rfl)
      have HCC : Hid ((el l k).cells = [.int .u32 (el l k).num, .int .i8 (el l k).mx, .int .i8 (el l k).my, .bool (el l k).fire, .int .u32 (el l k).view, .int .u8 (el l k).frac]) := rfl
      obtain ⟨x0, x1⟩ := hx
      obtain ⟨y0, y1⟩ := hy
      have hp3 := rtakeB W W.heap.size wr b1 e BS p _ ((el l k).mx + 127) 8 _ ⟨v3, hH.up2.up2⟩ HBK.out (by decide) (by omega) (by omega) hpl hdk
      have hat3 := at_on hpl hdk
      have hd3 := drop_on hdk
      have HP3 := Lib.hid hp3
      have HD3 := Lib.hid hd3
      clear hp3 hdk hd3 hH hfm hcw
      have k0 : (0 : Int) ≤ (k : Int) := by omega
      have k1 : (k : Int) < (l.length : Int) := by omega
      have ta : IntKind.u32.wrap (el l 0).num = (el l 0).num := u32a _ (by omega) (by omega)
      have tb : IntKind.u32.wrap (k : Int) = (k : Int) := u32a _ (by omega) (by omega)
      have tc : IntKind.u32.wrap ((el l 0).num + (k : Int)) = (el l 0).num + (k : Int) := u32a _ (by omega) (by omega)
      have tx1 : IntKind.i64.wrap ((el l k).mx + 127) = (el l k).mx + 127 := i64a _ (by omega) (by omega)
      have tx2 : IntKind.i64.wrap (el l k).mx = (el l k).mx := i64a _ (by omega) (by omega)
      have tx3 : IntKind.i8.wrap (el l k).mx = (el l k).mx := i8a _ (by omega) (by omega)
      have tx4 : (el l k).mx + 127 - 127 = (el l k).mx := by omega
      have ty1 : IntKind.i64.wrap ((el l k).my + 127) = (el l k).my + 127 := i64a _ (by omega) (by omega)
      have ty2 : IntKind.i64.wrap (el l k).my = (el l k).my := i64a _ (by omega) (by omega)
      have ty3 : IntKind.i8.wrap (el l k).my = (el l k).my := i8a _ (by omega) (by omega)
      have ty4 : (el l k).my + 127 - 127 = (el l k).my := by omega
      have tv : IntKind.u32.wrap (el l k).view = (el l k).view := u32a _ (by omega) (by omega)
      have tf : IntKind.u8.wrap (el l k).frac = (el l k).frac := u8a _ (by omega) (by omega)
      have tgx : ¬ 254 < (el l k).mx + 127 := by omega
      have tgy : ¬ 254 < (el l k).my + 127 := by omega
      have HNK := Lib.hid hnk
      clear hnk
      go_wp2_with fail
      refine HP3.out.mono ?_
      rintro e' w3 ⟨rfl, h3⟩
      have hp4 := rtakeB W W.heap.size w3 b1 e BS (p + 8) _ ((el l k).my + 127) 8 _ h3 HBK.out (by decide) (by omega) (by omega) hat3 HD3.out
      have hat4 := at_on hat3 HD3.out
      have HD4 := Lib.hid (drop_on HD3.out)
      have HP4 := Lib.hid hp4
      clear hp4 h3 HP3
      go_wp2_with fail
      refine HP4.out.mono ?_
      rintro e' w4 ⟨rfl, h4⟩
      have H4 := Lib.hid h4
      clear h4 HP4
      have HFF := Lib.hid hff
      clear hff
      generalize hfire : (el l k).fire = fire at *
      have HFI := Lib.hid hfire
      clear hfire
      cases fire with
      | false =>
        have hd4 : (bitsB BS).drop (p + 8 + 8) = bitsOf 0 1 ++ (((l.drop (k + 1)).flatMap cmdBits ++ tl)) := by have := HD4.out; simpa using this
        have hp5 := rtakeB W W.heap.size w4 b1 e BS (p + 8 + 8) _ 0 1 _ H4.out HBK.out (by decide) (by omega) (by decide) hat4 hd4
        have HP5 := Lib.hid hp5
        have hat5 := at_on hat4 hd4
        have HD5 := Lib.hid (drop_on hd4)
        clear hp5 hd4 H4
        go_wp2_with fail
        refine HP5.out.mono ?_
        rintro e' w5 ⟨rfl, vX, h5⟩
        have H5 := Lib.hid (h5.alloc [.int .u32 ((el l 0).num + (k : Int)), .int .i8 (el l k).mx, .int .i8 (el l k).my, .bool false, .int .u32 0, .int .u8 0] 28)
        clear h5 HP5
        go_upto_region 11 with (fail)
        have HX := H5
        clear H5
        generalize w5.alloc (Obj.cells #[Value.int .u32 ((el l 0).num + (k : Int)), Value.int .i8 (el l k).mx, Value.int .i8 (el l k).my, Value.bool false, Value.int .u32 0, Value.int .u8 0] 28) = wX at *
        generalize w5.heap.size = gX at *
        have hce : (el l k).cells = [.int .u32 ((el l 0).num + (k : Int)), .int .i8 (el l k).mx, .int .i8 (el l k).my, .bool false, .int .u32 0, .int .u8 0] := by
          rw [HCC.out, HNK.out]
          rcases HFF.out with h | h
          · exact absurd h.1 (by decide)
          · rw [h.2.1, h.2.2]
        have HCE := Lib.hid hce
        clear hce
        have hsz := HX.out.size
        obtain ⟨A, c, rfl⟩ := HX.out.up3.slice
        have hown := HX.out.up3.own
        have e0 := HX.out.cell 0 rfl
        have e1 := HX.out.cell 1 rfl
        have e2 := HX.out.cell 2 rfl
        have e3 := HX.out.cell 3 rfl
        have e4 := HX.out.cell 4 rfl
        have e5 := HX.out.cell 5 rfl
        refine wp_region_lit ?_
        refine wpList_plain rfl (fun K hK => ?_)
        go_simp
        refine hK _ _ ?_
        clear hK K
        refine wpList_plain rfl (fun K hK => ?_)
        go_simp
        refine hK _ _ ?_
        clear hK K
        refine wpList_plain rfl (fun K hK => ?_)
        go_simp
        refine hK _ _ ?_
        clear hK K
        refine wpList_append_own_at _ rfl (.tmp 52) (.tmp 54) 22 rfl W.heap.size 28 i0 (.agg #[.int .u32 0, .int .i8 0, .int .i8 0, .bool false, .int .u32 0, .int .u8 0]) 6 16 Try.underlying22 hi hz0 hz1 hz2 rfl (by decide) _ _ _ rfl (hown.alloc _) ⟨wX.heap.size, 0, none⟩ 1 1 (el l k).cells rfl rfl ?f2 ?f3 ?f4 ?f5 ?f6 ?_
        case f2 => intro j u hu; rw [HCE.out] at hu; rw [add_none, Nat.zero_add]; exact cell_one_new' _ _ _ j u (by simpa using hu)
        case f3 => intro u hu; exact cellsL_one [el l k] u (by simpa [cellsL] using hu)
        case f4 => unfold maxLen; have := HLL.out; omega
        case f5 => omega
        case f6 => simp; omega
        intro v8 w8 ho hg _ hat
        have h8 := (HX.out.up3.alloc' _).grew ho hg (hat.imp id (fun h => ⟨_, h, Nat.le_refl _⟩))
        clear ho hg hat hown e0 e1 e2 e3 e4 e5
        rw [← cellsL_snoc l k hkn] at h8
        have H8 := Lib.hid h8.up1.tail
        clear h8 HX
        go_wp2_with fail
        refine ⟨⟨k + 1, p + 8 + 8 + 1, by omega, by go_num, ?_, hat5, HD5.out, vX, H8.out⟩, by simp [intOf]; omega⟩
        rw [HN.out, List.length_append, HCL.out, HFE.out]
        rw [if_neg (by decide)]
        omega
      | true =>
        have hd4 : (bitsB BS).drop (p + 8 + 8) = bitsOf 1 1 ++ (bitsOf (el l k).view 32 ++ (bitsOf (el l k).frac 8 ++ ((l.drop (k + 1)).flatMap cmdBits ++ tl))) := by have := HD4.out; simpa using this
        have hp5 := rtakeB W W.heap.size w4 b1 e BS (p + 8 + 8) _ 1 1 _ H4.out HBK.out (by decide) (by omega) (by decide) hat4 hd4
        have HP5 := Lib.hid hp5
        have hat5 := at_on hat4 hd4
        have HD5 := Lib.hid (drop_on hd4)
        clear hp5 hd4 H4
        go_wp2_with fail
        refine HP5.out.mono ?_
        rintro e' w5 ⟨rfl, vX, h5⟩
        have H5 := Lib.hid (h5.alloc [.int .u32 ((el l 0).num + (k : Int)), .int .i8 (el l k).mx, .int .i8 (el l k).my, .bool true, .int .u32 0, .int .u8 0] 28)
        clear h5 HP5
        have e3 := H5.out.cell 3 rfl
        go_upto_region 10 with (fail)
        have H6 := H5
        clear H5 e3
        generalize w5.alloc (Obj.cells #[Value.int .u32 ((el l 0).num + (k : Int)), Value.int .i8 (el l k).mx, Value.int .i8 (el l k).my, Value.bool true, Value.int .u32 0, Value.int .u8 0] 28) = w6 at *
        generalize w5.heap.size = gX at *
        have hp6 := rtakeB W W.heap.size w6 b1 e BS (p + 8 + 8 + 1) _ (el l k).view 32 _ ⟨vX, H6.out.up2.up2⟩ HBK.out (by decide) (by omega) (by omega) hat5 HD5.out
        have hat6 := at_on hat5 HD5.out
        have HD6 := Lib.hid (drop_on HD5.out)
        have HP6 := Lib.hid hp6
        clear hp6 H6
        go_wp2_with fail
        refine HP6.out.mono ?_
        rintro e' w7 ⟨rfl, h7⟩
        have hp7 := rtakeB W W.heap.size w7 b1 e BS (p + 8 + 8 + 1 + 32) _ (el l k).frac 8 _ h7 HBK.out (by decide) (by omega) (by omega) hat6 HD6.out
        have hat7 := at_on hat6 HD6.out
        have HD7 := Lib.hid (drop_on HD6.out)
        have HP7 := Lib.hid hp7
        clear hp7 h7 HP6
        go_wp2_with fail
        refine HP7.out.mono ?_
        clear vX
        rintro e' w8 ⟨rfl, vX, h8⟩
        have h9 := h8.up2
        have q4 := h9.cell 4 rfl
        have q5 := h9.cell 5 rfl
        have f4 := h9.frozen 4
        have f5 := h9.frozen 5
        have hX := (h9.set 4 (.int .u32 (el l k).view)).set 5 (.int .u8 (el l k).frac)
        have q5' := (h9.set 4 (.int .u32 (el l k).view)).cell 5 rfl
        have f5' := (h9.set 4 (.int .u32 (el l k).view)).frozen 5
        simp only [List.set] at hX
        have HX := Lib.hid hX
        clear h8 h9 HP7 hX
        go_upto_region 11 with (fail)
        clear q4 q5 f4 f5 q5' f5'
        generalize (w8.setCell ⟨gX, 4, none⟩ (.int .u32 (el l k).view)).setCell ⟨gX, 5, none⟩ (.int .u8 (el l k).frac) = wX at *
        have hce : (el l k).cells = [.int .u32 ((el l 0).num + (k : Int)), .int .i8 (el l k).mx, .int .i8 (el l k).my, .bool true, .int .u32 (el l k).view, .int .u8 (el l k).frac] := by
          rw [HCC.out, HNK.out]
        have HCE := Lib.hid hce
        clear hce
        have hsz := HX.out.size
        obtain ⟨A, c, rfl⟩ := HX.out.up3.slice
        have hown := HX.out.up3.own
        have e0 := HX.out.cell 0 rfl
        have e1 := HX.out.cell 1 rfl
        have e2 := HX.out.cell 2 rfl
        have e3 := HX.out.cell 3 rfl
        have e4 := HX.out.cell 4 rfl
        have e5 := HX.out.cell 5 rfl
        refine wp_region_lit ?_
        refine wpList_plain rfl (fun K hK => ?_)
        go_simp
        refine hK _ _ ?_
        clear hK K
        refine wpList_plain rfl (fun K hK => ?_)
        go_simp
        refine hK _ _ ?_
        clear hK K
        refine wpList_plain rfl (fun K hK => ?_)
        go_simp
        refine hK _ _ ?_
        clear hK K
        refine wpList_append_own_at _ rfl (.tmp 52) (.tmp 54) 22 rfl W.heap.size 28 i0 (.agg #[.int .u32 0, .int .i8 0, .int .i8 0, .bool false, .int .u32 0, .int .u8 0]) 6 16 Try.underlying22 hi hz0 hz1 hz2 rfl (by decide) _ _ _ rfl (hown.alloc _) ⟨wX.heap.size, 0, none⟩ 1 1 (el l k).cells rfl rfl ?f2 ?f3 ?f4 ?f5 ?f6 ?_
        case f2 => intro j u hu; rw [HCE.out] at hu; rw [add_none, Nat.zero_add]; exact cell_one_new' _ _ _ j u (by simpa using hu)
        case f3 => intro u hu; exact cellsL_one [el l k] u (by simpa [cellsL] using hu)
        case f4 => unfold maxLen; have := HLL.out; omega
        case f5 => omega
        case f6 => simp; omega
        intro v8 w8 ho hg _ hat
        have h8 := (HX.out.up3.alloc' _).grew ho hg (hat.imp id (fun h => ⟨_, h, Nat.le_refl _⟩))
        clear ho hg hat hown e0 e1 e2 e3 e4 e5
        rw [← cellsL_snoc l k hkn] at h8
        have H8 := Lib.hid h8.up1.tail
        clear h8 HX
        go_wp2_with fail
        refine ⟨⟨k + 1, p + 8 + 8 + 1 + 32 + 8, by omega, by go_num, ?_, hat7, HD7.out, vX, H8.out⟩, by simp [intOf]; omega⟩
        rw [HN.out, List.length_append, HCL.out, HFE.out]
        rw [if_pos True.intro]
        omega
    · obtain rfl : k = l.length := by omega
      rw [List.take_of_length_le (Nat.le_refl _)] at hH hp
      have hrd := Holds.rdL hH
      obtain ⟨g, c, rfl, hc, _, _⟩ := hH.row (by omega)
      have h1 := rok W W.heap.size wr b1 e BS p false _ ⟨v3, hH.up2.up2⟩
      have h2 := row wr _ l hrd HWF.out
      rw [(rowB_true l).2 HIR.out] at h2
      have H1 := Lib.hid h1
      have H2 := Lib.hid h2
      have HH := Lib.hid hH
      have HRD := Lib.hid hrd
      clear h1 h2 hH hrd
      go_wp2_with fail
      refine H1.out.mono ?_
      rintro e' w4 ⟨rfl, rfl⟩
      go_wp2_with fail
      refine H2.out.mono ?_
      rintro e' w5 ⟨rfl, h5⟩
      have hrd5 := RdL.below' HRD.out h5
      have h6 := Holds.belowed HH.out h5
      have HRD5 := Lib.hid hrd5
      have H6 := Lib.hid h6
      clear h5 hrd5 h6 HH HRD
      go_wp2_with fail
      refine (cclip w5 g l.length c hc).mono ?_
      rintro e' w6 ⟨rfl, rfl⟩
      go_wp2_with fail
      refine bodyPost_ret (results_tmp2 rfl _ _ _) rfl ?_
      refine ⟨_, rfl, ⟨v3, ?_⟩, ?_⟩
      · have h7 := H6.out.tail
        have : p = at_ + (rowBits l).length := by rw [hp]; unfold rowBits; rw [List.length_append, headBits_length]; omega
        rw [← this]
        exact h7
      · have := RdL.part HRD5.out 0 l.length l.length (by omega) (Nat.le_refl _) (by unfold maxLen; have := HLL.out; omega)
        simpa using this

end Go.Proofs.Ytioogmicdonbpaa.Cmds
