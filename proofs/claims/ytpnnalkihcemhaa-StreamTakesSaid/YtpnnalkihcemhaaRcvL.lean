/- What a receiver that has all ahead reads of a sender's bundle; plain. -/
import Derived.Test.YtpnnalkihcemhaaRcv
import Derived.Test.YtpnnalkihcemhaaReadS
set_option linter.unusedVariables false
set_option linter.unusedSimpArgs false
namespace Go.Proofs.Ytpnnalkihcemhaa.Str
open Go.Sort Go.RowKit Go.Proofs.Ytpnnalkihcemhaa.Mem Go.Proofs.Ytpnnalkihcemhaa.Bits Go.Proofs.Ytpnnalkihcemhaa.Wr Go.Proofs.Ytpnnalkihcemhaa.Num Go.Proofs.Ytpnnalkihcemhaa.Step Go.Proofs.YtpnnalkihcemhaaW.PrintWords

def Good (l : List ByteArray) : Prop := ∀ t, t ∈ l → 1 ≤ t.size ∧ t.size ≤ 60
theorem Good.fits {l : List ByteArray} (h : Good l) : Fits l := fun t ht => (h t ht).2

theorem byte_back (x : Int) (h : 0 ≤ x ∧ x < 256) (tl : List Bool) : val ((bitsOf x 8 ++ tl).take 8) = x := by
  rw [List.take_append_of_le_length (by rw [bitsOf_length]; omega), List.take_of_length_le (by rw [bitsOf_length]; omega), val_bitsOf x 8 h.1]
  omega

theorem chars_charsB (t : ByteArray) : ∀ (k : Nat) (tl : List Bool), chars k (charsB t k ++ tl) = (List.range k).map (byteAt t)
  | 0, tl => rfl
  | k + 1, tl => by
    rw [chars_succ, charsB_succ, List.append_assoc, chars_charsB t k, List.range_succ, List.map_append]
    congr 1
    have e : (charsB t k ++ (bitsOf (byteAt t k) 8 ++ tl)).drop (8 * k) = bitsOf (byteAt t k) 8 ++ tl := by
      rw [← charsB_length t k, List.drop_left]
    rw [e, byte_back _ (byteAt_range t k)]
    rfl

theorem strOf_bytes (t : ByteArray) : strOfNums ((List.range t.size).map (byteAt t)) = t := by
  have h : (strOfNums ((List.range t.size).map (byteAt t))).data.toList = t.data.toList := by
    rw [strOfNums_data, List.map_map]
    apply List.ext_getElem?
    intro j
    have hsz : t.data.toList.length = t.size := by simp
    by_cases hj : j < t.size
    · rw [List.getElem?_map, List.getElem?_range hj, List.getElem?_eq_getElem (by omega)]
      simp only [Option.map_some, Function.comp, byteAt]
      rw [List.getD_eq_getElem?_getD, List.getElem?_eq_getElem (by omega)]
      simp
    · rw [List.getElem?_eq_none (by simp; omega), List.getElem?_eq_none (by omega)]
  cases t with
  | mk d =>
    have h2 : (strOfNums ((List.range (ByteArray.mk d).size).map (byteAt (ByteArray.mk d)))).data = d := Array.toList_inj.1 h
    exact congrArg ByteArray.mk h2

theorem linesB_cons (t : ByteArray) (l : List ByteArray) (n : Nat) : linesB (t :: l) (n + 1) = lineB t ++ linesB l n := by
  unfold linesB
  rw [List.range_succ_eq_map, List.flatMap_cons, List.flatMap_map]
  rfl

theorem takeLines_lines : ∀ (n : Nat) (l : List ByteArray) (tl : List Bool), n ≤ l.length → Good l → takeLines n (linesB l n ++ tl) = some (l.take n)
  | 0, l, tl, _, _ => by simp [takeLines]
  | n + 1, [], tl, h, _ => by simp at h
  | n + 1, t :: l, tl, h, hg => by
    have ht := hg t (by simp)
    have hs : val ((bitsOf (t.size : Int) 6 ++ (charsB t t.size ++ (linesB l n ++ tl))).take 6) = (t.size : Int) := by
      rw [List.take_append_of_le_length (by rw [bitsOf_length]; omega), List.take_of_length_le (by rw [bitsOf_length]; omega), val_bitsOf _ 6 (by omega)]
      omega
    have e : linesB (t :: l) (n + 1) ++ tl = bitsOf (t.size : Int) 6 ++ (charsB t t.size ++ (linesB l n ++ tl)) := by
      rw [linesB_cons, lineB]
      simp only [List.append_assoc]
    rw [e, takeLines, hs, Int.toNat_natCast]
    have hl : (bitsOf (t.size : Int) 6 ++ (charsB t t.size ++ (linesB l n ++ tl))).length = 6 + (8 * t.size + (linesB l n ++ tl).length) := by
      rw [List.length_append, List.length_append, bitsOf_length, charsB_length]
    rw [if_neg (by omega), if_neg (by omega), if_neg (by omega)]
    have d1 : (bitsOf (t.size : Int) 6 ++ (charsB t t.size ++ (linesB l n ++ tl))).drop 6 = charsB t t.size ++ (linesB l n ++ tl) := by
      have := List.drop_left (l₁ := bitsOf (t.size : Int) 6) (l₂ := charsB t t.size ++ (linesB l n ++ tl))
      rwa [bitsOf_length] at this
    have d2 : (bitsOf (t.size : Int) 6 ++ (charsB t t.size ++ (linesB l n ++ tl))).drop (6 + 8 * t.size) = linesB l n ++ tl := by
      rw [← List.drop_drop, d1]
      have := List.drop_left (l₁ := charsB t t.size) (l₂ := linesB l n ++ tl)
      rwa [charsB_length] at this
    rw [d1, d2, chars_charsB, strOf_bytes, takeLines_lines n l tl (by simpa using h) (fun u hu => hg u (by simp [hu]))]
    simp

/-- A receiver that has all ahead. -/
theorem recv_send (g : Int) (l : List ByteArray) (h0 : 0 ≤ g) (h1 : g ≤ 100000) (hg : Good l) :
    recv g (bitsB (pack (sendB g l (sendN l)))) = (l.take (sendN l), true, g + (sendN l : Nat)) := by
  obtain ⟨n, hn⟩ : ∃ n, sendN l = n := ⟨_, rfl⟩
  rw [hn, bitsB_pack]
  have hn7 : n ≤ 7 := by rw [← hn]; unfold sendN; omega
  have hnl : n ≤ l.length := by rw [← hn]; unfold sendN; omega
  generalize List.replicate (8 * nby (sendB g l n) - (sendB g l n).length) false = tl
  by_cases hz : n = 0
  · subst hz
    have e : sendB g l 0 = bitsOf 0 3 := by simp [sendB]
    rw [e]
    have hv : val ((bitsOf 0 3 ++ tl).take 3) = 0 := by
      rw [List.take_append_of_le_length (by rw [bitsOf_length]; omega), List.take_of_length_le (by rw [bitsOf_length]; omega)]
      decide
    rw [recv_zero (x := 0) (by rw [List.length_append, bitsOf_length]; omega) (by rw [hv]; rfl) rfl]
    simp
  · have e : sendB g l n = bitsOf (n : Int) 3 ++ (bitsOf (g + 1) 32 ++ linesB l n) := by unfold sendB; rw [if_neg hz]
    have e2 : sendB g l n ++ tl = bitsOf (n : Int) 3 ++ (bitsOf (g + 1) 32 ++ (linesB l n ++ tl)) := by rw [e]; simp only [List.append_assoc]
    rw [e2]
    have hv : val ((bitsOf (n : Int) 3 ++ (bitsOf (g + 1) 32 ++ (linesB l n ++ tl))).take 3) = (n : Int) := by
      rw [List.take_append_of_le_length (by rw [bitsOf_length]; omega), List.take_of_length_le (by rw [bitsOf_length]; omega), val_bitsOf _ 3 (by omega)]
      omega
    have d3 : (bitsOf (n : Int) 3 ++ (bitsOf (g + 1) 32 ++ (linesB l n ++ tl))).drop 3 = bitsOf (g + 1) 32 ++ (linesB l n ++ tl) := by
      have := List.drop_left (l₁ := bitsOf (n : Int) 3) (l₂ := bitsOf (g + 1) 32 ++ (linesB l n ++ tl))
      rwa [bitsOf_length] at this
    have hv2 : val (((bitsOf (n : Int) 3 ++ (bitsOf (g + 1) 32 ++ (linesB l n ++ tl))).drop 3).take 32) = g + 1 := by
      rw [d3, List.take_append_of_le_length (by rw [bitsOf_length]; omega), List.take_of_length_le (by rw [bitsOf_length]; omega), val_bitsOf _ 32 (by omega)]
      omega
    have d35 : (bitsOf (n : Int) 3 ++ (bitsOf (g + 1) 32 ++ (linesB l n ++ tl))).drop 35 = linesB l n ++ tl := by
      rw [show 35 = 3 + 32 from rfl, ← List.drop_drop, d3]
      have := List.drop_left (l₁ := bitsOf (g + 1) 32) (l₂ := linesB l n ++ tl)
      rwa [bitsOf_length] at this
    have hlen : (bitsOf (n : Int) 3 ++ (bitsOf (g + 1) 32 ++ (linesB l n ++ tl))).length = 35 + (linesB l n ++ tl).length := by
      rw [List.length_append, List.length_append, bitsOf_length, bitsOf_length]; omega
    have hls : linesOf n (bitsOf (n : Int) 3 ++ (bitsOf (g + 1) 32 ++ (linesB l n ++ tl))) = some (l.take n) := by
      unfold linesOf
      rw [if_neg (by omega), d35, takeLines_lines n l tl hnl hg]
    obtain ⟨x2, hx2⟩ : ∃ x2 : Nat, (x2 : Int) = g + 1 := ⟨(g + 1).toNat, by omega⟩
    rw [recv_first (given := g) (x := n) (x2 := x2) (by omega) hv.symm hz hls (by rw [hv2, hx2])]
    rw [if_neg (by omega), if_neg (by omega), hx2]
    have e0 : (g + 1 - (g + 1)).toNat = 0 := by simp
    rw [e0, List.drop_zero]
    congr 2
    omega

end Go.Proofs.Ytpnnalkihcemhaa.Str
