/- Messages in parts, and lists of lists of bytes that are read; plain. -/
import Derived.Test.YtpnnalkihcemhaaSame
import Derived.Test.YtpnnalkihcemhaaStep
import Derived.Test.YtpnnalkihcemhaaRd
set_option linter.unusedVariables false
set_option linter.unusedSimpArgs false
namespace Go.Proofs.Ytpnnalkihcemhaa.Frag
open Go.RowKit Go.Proofs.Ytpnnalkihcemhaa.Mem Go.Proofs.Ytpnnalkihcemhaa.Bits Go.Proofs.Ytpnnalkihcemhaa.Wr Go.Proofs.YtpnnalkihcemhaaW.PrintWords

/-- A message's bytes. -/
def msgB (size x : Int) : List Int := (List.range (size % 4200).toNat).map fun (i : Nat) => (x + (i : Int) % 251) % 256
theorem msgB_length (size x : Int) : (msgB size x).length = (size % 4200).toNat := by simp [msgB]
theorem msgB_ok (size x : Int) : bytesOk (msgB size x) := by
  refine ⟨by rw [msgB_length]; omega, fun c hc => ?_⟩
  simp only [msgB, List.mem_map] at hc
  obtain ⟨i, _, rfl⟩ := hc
  omega

def cnt (n : Nat) : Nat := (n + 299) / 300
def headB (id : Int) (n i : Nat) : List Bool := bitsOf id 16 ++ bitsOf ((n : Int) - 1) 4 ++ bitsOf (i : Int) 4
def part (id : Int) (bs : List Int) (i : Nat) : List Int := pack (headB id (cnt bs.length) i) ++ (bs.drop (300 * i)).take 300
def splitL (id : Int) (bs : List Int) : List (List Int) := (List.range (cnt bs.length)).map (part id bs)
def errS (bs : List Int) : Int := if bs.length = 0 then 1 else if 4000 < bs.length then 3 else 0
def partsOf (id : Int) (bs : List Int) : List (List Int) := if errS bs = 0 then splitL id bs else []

theorem headB_length (id : Int) (n i : Nat) : (headB id n i).length = 24 := by simp [headB, bitsOf_length]
theorem part_length (id : Int) (bs : List Int) (i : Nat) : (part id bs i).length = 3 + min 300 (bs.length - 300 * i) := by
  unfold part
  rw [List.length_append, pack_length, List.length_take, List.length_drop]
  unfold nby
  rw [headB_length]
theorem splitL_length (id : Int) (bs : List Int) : (splitL id bs).length = cnt bs.length := by simp [splitL]
theorem splitL_get (id : Int) (bs : List Int) (i : Nat) (h : i < cnt bs.length) : (splitL id bs)[i]? = some (part id bs i) := by
  unfold splitL
  rw [List.getElem?_map, List.getElem?_range h]
  rfl
theorem errS_zero {bs : List Int} (h : errS bs = 0) : 0 < bs.length ∧ bs.length ≤ 4000 := by
  unfold errS at h
  split at h
  · omega
  · split at h
    · omega
    · omega
theorem partsOf_ok {id : Int} {bs : List Int} (h : errS bs = 0) : partsOf id bs = splitL id bs := if_pos h
theorem partsOf_not {id : Int} {bs : List Int} (h : errS bs ≠ 0) : partsOf id bs = [] := if_neg h

/-- A slice of slices of bytes that is read. -/
def RdS (w : World) (v : Value) (L : List (List Int)) : Prop :=
  ∃ vs : List Value, vs.length = L.length ∧ Rd w v L.length vs ∧ ∀ (i : Nat) (bs : List Int), L[i]? = some bs → ∃ vi, vs[i]? = some vi ∧ Rd w vi bs.length (nums .u8 bs)

theorem RdS.nil (w : World) : RdS w (.slice none 0 0) [] := ⟨[], rfl, .inl ⟨rfl, rfl, rfl⟩, fun i bs h => by simp at h⟩
theorem RdS.below {W w : World} {v : Value} {L : List (List Int)} (h : RdS W v L) (hb : Below W.heap.size W w) : RdS w v L := by
  obtain ⟨vs, h1, h2, h3⟩ := h
  refine ⟨vs, h1, h2.below hb, fun i bs hi => ?_⟩
  obtain ⟨vi, h4, h5⟩ := h3 i bs hi
  exact ⟨vi, h4, h5.below hb⟩
/-- Its value written out, its elements' cells. -/
theorem RdS.form {w : World} {v : Value} {L : List (List Int)} (h : RdS w v L) :
    ∃ A c, v = .slice A L.length c ∧ L.length ≤ c ∧ c ≤ maxLen ∧ ∀ (i : Nat) (bs : List Int), L[i]? = some bs → ∃ b off A' c', A = some ⟨b, off, none⟩ ∧ b < w.heap.size ∧ bs.length ≤ c' ∧ c' ≤ maxLen ∧ w.cell? ⟨b, off + i, none⟩ = some (.slice A' bs.length c') ∧ Rd w (.slice A' bs.length c') bs.length (nums .u8 bs) := by
  obtain ⟨vs, h1, h2, h3⟩ := h
  obtain ⟨A, c, hv, hc, hm, hr⟩ := Rd.form h2 h1
  refine ⟨A, c, hv, hc, hm, fun i bs hi => ?_⟩
  have hlt := (List.getElem?_eq_some_iff.1 hi).1
  obtain ⟨b, off, hA, hb, hr⟩ := hr i hlt
  obtain ⟨vi, h4, h5⟩ := h3 i bs hi
  obtain ⟨A', c', hv', hc', hm', _⟩ := Rd.form h5 (nums_length _ _)
  have h6 := hr vi h4
  rw [hv'] at h6 h5
  exact ⟨b, off, A', c', hA, hb, hc', hm', h6, h5⟩

/-- Rows that are held are read. -/
theorem rdS_of {W w : World} {B : Nat} {v : Value} {t : TypeId} {vs : List Value} {P : List Ent} {L : List (List Int)} {e : TypeId} (h : Holds W B w (.rw v t 1 L.length vs :: P))
    (hl : vs.length = L.length) (hp : ∀ (i : Nat) (bs : List Int), L[i]? = some bs → ∃ vi, vs[i]? = some vi ∧ Ent.rw vi e 1 bs.length (nums .u8 bs) ∈ P) : RdS w v L := by
  refine ⟨vs, hl, h.rd, fun i bs hi => ?_⟩
  obtain ⟨vi, h1, h2⟩ := hp i bs hi
  exact ⟨vi, h1, Rd.of_own (h.each _ (List.mem_cons_of_mem _ h2))⟩

theorem msgB_succ (size x : Int) (k : Nat) (h : k < (size % 4200).toNat) : (msgB size x).take (k + 1) = (msgB size x).take k ++ [(x + (k : Int) % 251) % 256] := by
  rw [List.take_add_one]
  congr 1
  simp [msgB, h]

/-- The first k parts' bytes, but for three of each. -/
def sumTo (n k : Nat) : Nat := min (300 * k) n
theorem sumTo_succ (n k : Nat) : sumTo n (k + 1) = sumTo n k + min 300 (n - 300 * k) := by unfold sumTo; omega
theorem sumTo_all (n : Nat) : sumTo n (cnt n) = n := by unfold sumTo cnt; omega
theorem cnt_lt {n k : Nat} (h : k < cnt n) : 300 * k < n := by unfold cnt at h; omega
theorem cnt_next {n k : Nat} (h : k + 1 < cnt n) : 300 * k + 300 < n := by unfold cnt at h; omega
theorem cnt_max {n : Nat} (h : n ≤ 4000) : cnt n ≤ 14 := by unfold cnt; omega
theorem cnt_pos {n : Nat} (h : 0 < n) : 0 < cnt n := by unfold cnt; omega
theorem cnt_le_of {n k : Nat} (h : n ≤ 300 * k) : cnt n ≤ k := by unfold cnt; omega

theorem part_step (id : Int) (bs : List Int) (i k : Nat) (hk : k < 300) (h : 300 * i + k < bs.length) :
    pack (headB id (cnt bs.length) i) ++ (bs.drop (300 * i)).take (k + 1) = pack (headB id (cnt bs.length) i) ++ (bs.drop (300 * i)).take k ++ [bs.getD (300 * i + k) 0] := by
  rw [List.append_assoc]
  congr 1
  rw [List.take_add_one]
  congr 1
  rw [List.getElem?_drop, List.getD_eq_getElem?_getD, List.getElem?_eq_getElem h]
  rfl

end Go.Proofs.Ytpnnalkihcemhaa.Frag
