/- A sender's bundle: what Put puts. -/
import Derived.Test.YtpnnalkihcemhaaStr
import Derived.Deep.Cut
set_option linter.unusedVariables false
set_option linter.unusedSimpArgs false
namespace Go.Proofs.Ytpnnalkihcemhaa.Str
open Go.Sort Go.RowKit Go.Proofs.Ytpnnalkihcemhaa.Mem Go.Proofs.Ytpnnalkihcemhaa.Bits Go.Proofs.Ytpnnalkihcemhaa.Wr Go.Proofs.Ytpnnalkihcemhaa.Num Go.Proofs.Ytpnnalkihcemhaa.Step Go.Proofs.YtpnnalkihcemhaaW.PrintWords

def byteAt (t : ByteArray) (j : Nat) : Int := ((t.data.toList.getD j 0).toNat : Int)
theorem byteAt_eq (t : ByteArray) (j : Nat) (h : j < t.size) : ((t[j]'h).toNat : Int) = byteAt t j := by
  unfold byteAt
  have h' : j < t.data.toList.length := by simpa using h
  rw [List.getD_eq_getElem?_getD, List.getElem?_eq_getElem h']
  simp
  rfl
theorem byteAt_range (t : ByteArray) (j : Nat) : 0 ≤ byteAt t j ∧ byteAt t j < 256 := by
  have := (t.data.toList.getD j 0).toNat_lt
  unfold byteAt
  omega
def charsB (t : ByteArray) (k : Nat) : List Bool := (List.range k).flatMap fun j => bitsOf (byteAt t j) 8
theorem charsB_succ (t : ByteArray) (k : Nat) : charsB t (k + 1) = charsB t k ++ bitsOf (byteAt t k) 8 := by
  unfold charsB
  rw [List.range_succ, List.flatMap_append]
  simp
theorem charsB_length (t : ByteArray) (k : Nat) : (charsB t k).length = 8 * k := by
  induction k with
  | zero => rfl
  | succ k ih => rw [charsB_succ, List.length_append, ih, bitsOf_length]; omega
def lineB (t : ByteArray) : List Bool := bitsOf (t.size : Int) 6 ++ charsB t t.size
def lineAt (l : List ByteArray) (j : Nat) : ByteArray := l.getD j ByteArray.empty
theorem lineAt_get (l : List ByteArray) (j : Nat) (h : j < l.length) : l[j]? = some (lineAt l j) := by
  unfold lineAt
  rw [List.getD_eq_getElem?_getD, List.getElem?_eq_getElem h]
  rfl
def linesB (l : List ByteArray) (k : Nat) : List Bool := (List.range k).flatMap fun j => lineB (lineAt l j)
theorem linesB_succ (l : List ByteArray) (k : Nat) : linesB l (k + 1) = linesB l k ++ lineB (lineAt l k) := by
  unfold linesB
  rw [List.range_succ, List.flatMap_append]
  simp
def Fits (l : List ByteArray) : Prop := ∀ t, t ∈ l → t.size ≤ 60
theorem lineB_length (t : ByteArray) : (lineB t).length = 6 + 8 * t.size := by unfold lineB; rw [List.length_append, bitsOf_length, charsB_length]
theorem lineAt_fits {l : List ByteArray} (h : Fits l) (j : Nat) : (lineAt l j).size ≤ 60 := by
  by_cases hj : j < l.length
  · exact h _ (List.mem_of_getElem? (lineAt_get l j hj))
  · unfold lineAt
    rw [List.getD_eq_getElem?_getD, List.getElem?_eq_none (by omega)]
    exact Nat.zero_le _
theorem linesB_length {l : List ByteArray} (h : Fits l) (k : Nat) : (linesB l k).length ≤ 486 * k := by
  induction k with
  | zero => exact Nat.le_refl _
  | succ k ih => rw [linesB_succ, List.length_append, lineB_length]; have := lineAt_fits h k; omega
def sendB (gone : Int) (l : List ByteArray) (n : Nat) : List Bool := bitsOf (n : Int) 3 ++ if n = 0 then [] else bitsOf (gone + 1) 32 ++ linesB l n
def sendN (l : List ByteArray) : Nat := min l.length 7

theorem u64_small {n : Nat} (h : n ≤ 1000000) : IntKind.u64.wrap (n : Int) = (n : Int) ∧ (n : Int) % 18446744073709551616 = (n : Int) ∧ (0 : Int) ≤ (n : Int) ∧ (n : Int) < 18446744073709551616 := by rw [wrap_u64]; omega
theorem u64_byte {x : Int} (h : 0 ≤ x ∧ x < 256) : IntKind.u64.wrap x = x ∧ x % 18446744073709551616 = x ∧ x < 18446744073709551616 := by rw [wrap_u64]; omega
theorem u32_next {g : Int} (h0 : 0 ≤ g) (h1 : g < 4294967295) : IntKind.u32.wrap (g + 1) = g + 1 ∧ (g + 1) % 4294967296 = g + 1 ∧ IntKind.u64.wrap (g + 1) = g + 1 ∧ (g + 1) % 18446744073709551616 = g + 1 ∧ 0 ≤ g + 1 ∧ g + 1 < 18446744073709551616 := by
  rw [wrap_u32, wrap_u64]; omega

theorem loop_facts {k n : Nat} (h : k < n) (hn : n ≤ 1000) : (0 : Int) ≤ (k : Int) ∧ (k : Int) < (n : Int) ∧ wrap64 ((k : Int) + 1) = (k : Int) + 1 ∧ IntKind.i64.wrap ((k : Int) + 1) = (k : Int) + 1 := by rw [wrap_i64]; unfold wrap64; omega
theorem len_ok {M L : List Bool} {l : List ByteArray} {k n : Nat} (h1 : M.length = L.length + 35) (h2 : L.length + 10000 ≤ 1000000000) (hf : Fits l) (h3 : n ≤ 7) (h4 : k ≤ n) : (M ++ linesB l k).length + 64 ≤ 1000000000 := by
  rw [List.length_append]; have := linesB_length hf k; omega
theorem len_ok2 {M L : List Bool} {l : List ByteArray} {k n j : Nat} {t : ByteArray} (h1 : M.length = L.length + 35) (h2 : L.length + 10000 ≤ 1000000000) (hf : Fits l) (h3 : n ≤ 7) (h4 : k ≤ n) (h5 : t.size ≤ 60) (h6 : j ≤ t.size) :
    (M ++ linesB l k ++ bitsOf (t.size : Int) (6 : Int).toNat ++ charsB t j).length + 64 ≤ 1000000000 := by
  rw [List.length_append, List.length_append, List.length_append, bitsOf_length, charsB_length]; have := linesB_length hf k
  have e : (6 : Int).toNat = 6 := rfl
  omega
theorem wpList_min {P : Program} {w : World} {ops : Array Oper} {rest : List Oper} {o : Oper} {a : Act} {Q : Exit → Act → World → Prop} (hgd : o.guard = none) (s x : Operand) (ts : Array TypeId)
    (ho : o.op = .call { callee := .builtin .min, args := #[s, x], argTypes := ts }) (p q r : Int) (hs : a.eval s = .int .i64 p) (hx : a.eval x = .int .i64 q) (hr : (if q < p then q else p) = r)
    (h : wpList P ops Q rest (a.put o.dst (.int .i64 r)) w) : wpList P ops Q (o :: rest) a w := by
  refine wpList_plain hgd fun K hK => ?_
  unfold Oper.wp execOp
  simp only [ho, resolve, invoke, builtin, Sem.run_bind, Sem.run_pure, Result.andThen_ok, List.map_toArray, List.map_cons, List.map_nil, hs, hx, run_min_int2, hr]
  exact hK _ _ h

set_option maxHeartbeats 2000000 in
theorem sput_some (W : World) (B : Nat) (w : World) (b wb : Nat) (e : TypeId) (gone : Int) (l : List ByteArray) (F : List Ent) (L : List Bool) (n : Nat) (hn : n = sendN l) (hn0 : 0 < n) (hg0 : 0 ≤ gone) (hg1 : gone < 4294967295) (hf : Fits l)
    (hW : ∃ v, HasW W B w wb e L (.st b [.int .u32 gone, v] 65 :: .qu v 9 (strs l) :: F)) (hL : L.length + 10000 ≤ 1000000000) :
    Calls Try.prog 27 #[.pointer (some ⟨b, 0, none⟩), .pointer (some ⟨wb, 0, none⟩)] w fun e' w' => e' = .returned (.tuple #[]) ∧ ∃ v, HasW W B w' wb e (L ++ sendB gone l n) (.st b [.int .u32 gone, v] 65 :: .qu v 9 (strs l) :: F) := by
  obtain ⟨v, hw⟩ := hW
  obtain ⟨vw, hH⟩ := hw
  obtain ⟨A, c, rfl, hc, hm, hA⟩ := sslice hH.up3
  have hlen : n ≤ l.length := by rw [hn]; unfold sendN; omega
  have hn7 : n ≤ 7 := by rw [hn]; unfold sendN; omega
  obtain ⟨g, off, rfl⟩ := hA (by omega)
  have HWT := Lib.hid (swaits W B w b gone l _ ⟨_, hH.up3.up3⟩)
  have HW0 : Hid (HasW W B w wb e L (.st b [.int .u32 gone, .slice (some ⟨g, off, none⟩) l.length c] 65 :: .qu (.slice (some ⟨g, off, none⟩) l.length c) 9 (strs l) :: F)) := ⟨vw, hH⟩
  have hp0 := put W B w wb e L _ (n : Int) 3 HW0.out (by omega) (by omega) (by decide) (by decide) (by omega)
  have HP0 := Lib.hid hp0
  have HLL := Lib.hid hL
  have HF := Lib.hid hf
  have HN7 := Lib.hid hn7
  obtain ⟨u1, u2, u3, u4⟩ := u64_small (show n ≤ 1000000 by omega)
  obtain ⟨y1, y2, y3, y4, y5, y6⟩ := u32_next hg0 hg1
  have hlc : (n : Int) ≤ (c : Int) := by omega
  have hnn : ¬ n = 0 := by omega
  have hnn2 : ((n : Int) == 0) = false := beq_eq_false_iff_ne.2 (by omega)
  have hmin : (if (7 : Int) < (l.length : Int) then (7 : Int) else (l.length : Int)) = (n : Int) := by rw [hn]; unfold sendN; split <;> omega
  have HMIN := Lib.hid hmin
  have HNL := Lib.hid hlen
  have hHg := hH.up2
  clear hHg
  clear hH hp0 hL hf hlen hn7 hc hm hA hn hmin HW0
  go_enter Try.func27, Try.ntmps27
  go_upto_region 0 with (fail)
  refine wp_region_lit ?_
  refine wpList_plain rfl (fun K hK => ?_)
  go_simp
  refine hK _ _ ?_
  clear hK K
  refine wpList_plain rfl (fun K hK => ?_)
  go_simp
  refine HWT.out.mono ?_
  rintro e' w1 ⟨rfl, rfl⟩
  refine hK _ _ ?_
  clear hK K HWT
  refine wpList_min rfl (.tmp 9) (.const (.int .i64 7)) _ rfl _ _ _ rfl rfl HMIN.out ?_
  go_wp2_with fail
  refine HP0.out.mono ?_
  rintro e' w2 ⟨rfl, h2⟩
  have H2 := Lib.hid h2
  obtain ⟨vw2, hh2⟩ := h2
  have c0 := hh2.up2.cell 0 rfl
  have c1 := hh2.up2.cell 1 rfl
  have hp1 := put W B w2 wb e _ _ (gone + 1) 32 H2.out y5 y6 (by decide) (by decide) (by rw [List.length_append, bitsOf_length]; have := HLL.out; omega)
  have HP1 := Lib.hid hp1
  clear hh2 hp1 HP0
  go_wp2_with fail
  refine HP1.out.mono ?_
  rintro e' w3 ⟨rfl, h3⟩
  have H3 := Lib.hid h3
  obtain ⟨vw3, hh3⟩ := h3
  clear c0 c1
  have c1 := hh3.up2.cell 1 rfl
  clear hh3 HP1 H2
  go_wp2_with fail
  clear c1
  obtain ⟨M, hM⟩ : ∃ M, L ++ bitsOf (n : Int) (3 : Int).toNat ++ bitsOf (gone + 1) (32 : Int).toNat = M := ⟨_, rfl⟩
  rw [hM] at H3
  have hMl : M.length = L.length + 35 := by rw [← hM, List.length_append, List.length_append, bitsOf_length, bitsOf_length]; rfl
  have HM := Lib.hid hM
  have HML := Lib.hid hMl
  clear hM hMl
  go_loopw [32] (fun i wr => ∃ k : Nat, k ≤ n ∧ i = .int .i64 k ∧ HasW W B wr wb e (M ++ linesB l k) (.st b [.int .u32 gone, .slice (some ⟨g, off, none⟩) l.length c] 65 :: .qu (.slice (some ⟨g, off, none⟩) l.length c) 9 (strs l) :: F))
    (fun i _ => n - (intOf i).toNat)
  case atStart => exact ⟨0, Nat.zero_le _, rfl, by rw [show linesB l 0 = [] from rfl, List.append_nil]; exact H3.out⟩
  case round =>
    obtain ⟨k, hk, rfl, hH⟩ := hrel
    clear H3
    by_cases hkn : k < n
    · obtain ⟨t, ht⟩ : ∃ t, lineAt l k = t := ⟨_, rfl⟩
      have hts : t.size ≤ 60 := ht ▸ lineAt_fits HF.out k
      have HH := Lib.hid hH
      obtain ⟨vk, hh⟩ := hH
      have hq : ownsQ _ _ _ _ _ := hh.up3.head
      rw [← strs_length l] at hq
      have ck := ownsQ.cells hq k (.string t) (strs_get l k t (ht ▸ lineAt_get l k (Nat.lt_of_lt_of_le hkn HNL.out)))
      rw [add_none'] at ck
      obtain ⟨k0, k1, k2, k3⟩ := loop_facts hkn (Nat.le_trans HN7.out (by decide))
      obtain ⟨v1, v2, v3, v4⟩ := u64_small (Nat.le_trans hts (by decide))
      have hp := put W B wr wb e _ _ (t.size : Int) 6 HH.out v3 v4 (by decide) (by decide) (len_ok HML.out HLL.out HF.out HN7.out (Nat.le_of_lt hkn))
      have HP := Lib.hid hp
      have HTS := Lib.hid hts
      have HT := Lib.hid ht
      have HK2 := Lib.hid k2
      clear hh hq hp ht hts k2 k3
      go_wp2_with fail
      refine HP.out.mono ?_
      rintro e' w4 ⟨rfl, h4⟩
      have H4 := Lib.hid h4
      clear h4 HP ck HH
      go_wp2_with fail
      go_loopw [43] (fun i wr => ∃ j : Nat, j ≤ t.size ∧ i = .int .i64 j ∧ HasW W B wr wb e (M ++ linesB l k ++ bitsOf (t.size : Int) (6 : Int).toNat ++ charsB t j) (.st b [.int .u32 gone, .slice (some ⟨g, off, none⟩) l.length c] 65 :: .qu (.slice (some ⟨g, off, none⟩) l.length c) 9 (strs l) :: F))
        (fun i _ => t.size - (intOf i).toNat)
      case atStart => exact ⟨0, Nat.zero_le _, rfl, by rw [show charsB t 0 = [] from rfl, List.append_nil]; exact H4.out⟩
      case round =>
        obtain ⟨j, hj, rfl, hH⟩ := hrel
        clear H4
        by_cases hjn : j < t.size
        · obtain ⟨k4, k5, k6, k7⟩ := loop_facts hjn (Nat.le_trans HTS.out (by decide))
          have hbr := byteAt_range t j
          obtain ⟨z1, z2, z3⟩ := u64_byte hbr
          have hp := put W B wr wb e _ _ (byteAt t j) 8 hH hbr.1 z3 (by decide) (by decide) (len_ok2 HML.out HLL.out HF.out HN7.out (Nat.le_of_lt hkn) HTS.out hj)
          have HP := Lib.hid hp
          have HK6 := Lib.hid k6
          have hbe := byteAt_eq t j hjn
          clear hp hH hbr k6 k7
          go_wp2_with fail
          refine HP.out.mono ?_
          rintro e' w5 ⟨rfl, h5⟩
          have H5 := Lib.hid h5
          clear h5 HP hbe z1 z2 z3
          go_wp2_with fail
          try rw [HK6.out]
          refine ⟨⟨j + 1, hjn, cast_succ j, ?_⟩, succ_less hjn⟩
          rw [charsB_succ, ← List.append_assoc]
          exact H5.out
        · obtain rfl : j = t.size := by omega
          have HH := Lib.hid hH
          clear hH
          go_wp2_with fail
          try rw [HK2.out]
          refine ⟨⟨k + 1, hkn, cast_succ k, ?_⟩, succ_less hkn⟩
          rw [linesB_succ, HT.out, ← List.append_assoc]
          have h5 := HH.out
          rw [List.append_assoc (M ++ linesB l k)] at h5
          exact h5
    · obtain rfl : k = n := by omega
      have HH := Lib.hid hH
      clear hH
      go_wp2_with fail
      go_end0
      refine ⟨rfl, .slice (some ⟨g, off, none⟩) l.length c, ?_⟩
      unfold sendB
      rw [if_neg (by omega), ← List.append_assoc, ← List.append_assoc]
      have h5 := HH.out
      rw [← HM.out] at h5
      exact h5

set_option maxHeartbeats 1000000 in
theorem sput_none (W : World) (B : Nat) (w : World) (b wb : Nat) (e : TypeId) (gone : Int) (l : List ByteArray) (F : List Ent) (L : List Bool) (hn0 : l.length = 0)
    (hW : ∃ v, HasW W B w wb e L (.st b [.int .u32 gone, v] 65 :: .qu v 9 (strs l) :: F)) (hL : L.length + 10000 ≤ 1000000000) :
    Calls Try.prog 27 #[.pointer (some ⟨b, 0, none⟩), .pointer (some ⟨wb, 0, none⟩)] w fun e' w' => e' = .returned (.tuple #[]) ∧ ∃ v, HasW W B w' wb e (L ++ sendB gone l 0) (.st b [.int .u32 gone, v] 65 :: .qu v 9 (strs l) :: F) := by
  obtain ⟨v, hw⟩ := hW
  have HW := Lib.hid hw
  obtain ⟨vw, hH⟩ := hw
  have hwt := swaits W B w b gone l _ ⟨_, hH.up3.up3⟩
  rw [hn0] at hwt
  have HWT := Lib.hid hwt
  have hp0 := put W B w wb e L _ 0 3 HW.out (by decide) (by decide) (by decide) (by decide) (by omega)
  have HP0 := Lib.hid hp0
  clear hH hwt hp0 hL hn0
  go_enter Try.func27, Try.ntmps27
  go_wp2_with fail
  refine HWT.out.mono ?_
  rintro e' w1 ⟨rfl, rfl⟩
  rw [show ((0 : Nat) : Int) = 0 from rfl]
  go_wp2_with fail
  refine HP0.out.mono ?_
  rintro e' w2 ⟨rfl, h2⟩
  have H2 := Lib.hid h2
  clear h2 HP0
  go_wp2_with fail
  refine bodyPost_ret (v := .tuple #[]) (results_none rfl _ _ _) rfl ⟨rfl, v, ?_⟩
  unfold sendB
  rw [if_pos rfl, List.append_nil]
  exact H2.out

theorem sput (W : World) (B : Nat) (w : World) (b wb : Nat) (e : TypeId) (gone : Int) (l : List ByteArray) (F : List Ent) (L : List Bool) (hg0 : 0 ≤ gone) (hg1 : gone < 4294967295) (hf : Fits l)
    (hW : ∃ v, HasW W B w wb e L (.st b [.int .u32 gone, v] 65 :: .qu v 9 (strs l) :: F)) (hL : L.length + 10000 ≤ 1000000000) :
    Calls Try.prog 27 #[.pointer (some ⟨b, 0, none⟩), .pointer (some ⟨wb, 0, none⟩)] w fun e' w' => e' = .returned (.tuple #[]) ∧ ∃ v, HasW W B w' wb e (L ++ sendB gone l (sendN l)) (.st b [.int .u32 gone, v] 65 :: .qu v 9 (strs l) :: F) := by
  by_cases h : l.length = 0
  · have e0 : sendN l = 0 := by unfold sendN; omega
    rw [e0]
    exact sput_none W B w b wb e gone l F L h hW hL
  · exact sput_some W B w b wb e gone l F L (sendN l) rfl (by unfold sendN; omega) hg0 hg1 hf hW hL

end Go.Proofs.Ytpnnalkihcemhaa.Str
