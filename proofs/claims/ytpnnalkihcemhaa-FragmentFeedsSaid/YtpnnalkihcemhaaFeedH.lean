/- A part's head, read by the program. -/
import Derived.Test.YtpnnalkihcemhaaFeedI
import Derived.Test.YtpnnalkihcemhaaFragB
import Derived.Test.YtpnnalkihcemhaaTakeAny
import Derived.Deep.Cut
set_option linter.unusedVariables false
set_option linter.unusedSimpArgs false
namespace Go.Proofs.Ytpnnalkihcemhaa.Frag
open Go.Sort Go.RowKit Go.Deep Go.Proofs.Ytpnnalkihcemhaa.Mem Go.Proofs.Ytpnnalkihcemhaa.Open Go.Proofs.Ytpnnalkihcemhaa.Num Go.Proofs.Ytpnnalkihcemhaa.Wr Go.Proofs.Ytpnnalkihcemhaa.Bits Go.Proofs.Ytpnnalkihcemhaa.Step Go.Proofs.YtpnnalkihcemhaaW.PrintWords

/-- Part of a message: its id, how many parts, the place. -/
structure PH where
  id : Nat
  n : Nat
  at_ : Nat
def bitsH (bs : List Int) : List Bool := bitsB (bs.take 3)
def headOf (bs : List Int) : PH := ⟨(val ((bitsH bs).take 16)).toNat, (val (((bitsH bs).drop 16).take 4)).toNat + 1, (val (((bitsH bs).drop 20).take 4)).toNat⟩
/-- Is it a part? -/
def okPart (bs : List Int) : Bool := decide (4 ≤ bs.length) && decide (bs.length ≤ 303) && decide ((headOf bs).at_ < (headOf bs).n) && decide ((headOf bs).n ≤ 14) && (decide ((headOf bs).at_ + 1 = (headOf bs).n) || decide (bs.length = 303))

theorem Rd_take {w : World} {A : Option Addr} {n c m : Nat} {bs : List Int} (h : Rd w (.slice A n c) n (nums .u8 bs)) (hl : bs.length = n) (hm : m ≤ n) : Rd w (.slice A m c) m (nums .u8 (bs.take m)) := by
  rcases h with ⟨h1, h2, h3⟩ | ⟨ad, c', h1, h2, h3, hr⟩
  · simp only [Value.slice.injEq] at h1
    obtain ⟨rfl, rfl, rfl⟩ := h1
    have : m = 0 := by omega
    subst this
    have : bs = [] := List.eq_nil_of_length_eq_zero hl
    subst this
    exact .inl ⟨rfl, rfl, rfl⟩
  · simp only [Value.slice.injEq] at h1
    obtain ⟨rfl, _, rfl⟩ := h1
    refine .inr ⟨ad, c, rfl, by omega, h3, fun j u hu => hr j u ?_⟩
    have hj : j < (nums .u8 (bs.take m)).length := (List.getElem?_eq_some_iff.1 hu).1
    simp only [nums, List.length_map, List.length_take] at hj
    simp only [nums, List.getElem?_map, List.getElem?_take] at hu ⊢
    rw [if_pos (by omega)] at hu
    exact hu

theorem th_facts {x1 x2 x3 : Nat} (h1 : x1 < 2 ^ 16) (h2 : x2 < 2 ^ 4) (h3 : x3 < 2 ^ 4) : IntKind.u16.wrap (x1 : Int) = (x1 : Int) ∧ IntKind.i64.wrap (x2 : Int) = (x2 : Int) ∧ IntKind.i64.wrap (x3 : Int) = (x3 : Int) ∧ IntKind.i64.wrap ((x2 : Int) + 1) = (x2 : Int) + 1 ∧ (0 : Int) ≤ (x1 : Int) ∧ (0 : Int) ≤ (x2 : Int) ∧ (0 : Int) ≤ (x3 : Int) := by
  have e16 : (2 : Nat) ^ 16 = 65536 := by decide
  have e4 : (2 : Nat) ^ 4 = 16 := by decide
  rw [wrap_u16, wrap_i64, wrap_i64, wrap_i64]; unfold wrap64; omega
theorem sl_facts {n c m : Nat} (hm : m = min n 3) (hc : n ≤ c) : (0 : Int) ≤ (m : Int) ∧ (m : Int) ≤ (c : Int) ∧ m ≤ c ∧ (m : Int) ≤ (n : Int) ∧ ((m : Int)).toNat = m ∧ (if (n : Int) < 3 then (n : Int) else 3) = (m : Int) := by
  refine ⟨by omega, by omega, by omega, by omega, by omega, ?_⟩
  split <;> omega
/-- What is read of a part's head. -/
structure Head (bs : List Int) (x1 x2 x3 : Nat) (fl : Bool) : Prop where
  l1 : x1 < 2 ^ 16
  l2 : x2 < 2 ^ 4
  l3 : x3 < 2 ^ 4
  good : fl = false → 3 ≤ bs.length ∧ headOf bs = ⟨x1, x2 + 1, x3⟩
  bad : fl = true → bs.length < 3

set_option maxRecDepth 100000 in
set_option maxHeartbeats 4000000 in
theorem feed_head (W : World) (B : Nat) (w : World) (F : List Ent) (A : Option Addr) (c : Nat) (bs : List Int) (hb : bytesOk bs) (hr : Rd w (.slice A bs.length c) bs.length (nums .u8 bs)) (hc : bs.length ≤ c) (hH : Holds W B w F) :
    Calls Try.prog 36 #[.slice A (min bs.length 3 : Nat) c] w fun e' w' => ∃ rb, e' = .returned (.pointer (some ⟨rb, 0, none⟩)) ∧ HasR W B w' rb 124 (bs.take 3) 0 false F := by
  have hm : min bs.length 3 ≤ bs.length := Nat.min_le_left _ _
  have h1 := Rd_take hr rfl hm
  have e : bs.take (min bs.length 3) = bs.take 3 := by
    by_cases h : bs.length ≤ 3
    · rw [Nat.min_eq_left h, List.take_of_length_le (Nat.le_refl _), List.take_of_length_le h]
    · rw [Nat.min_eq_right (by omega)]
  rw [e] at h1
  have hl : (bs.take 3).length = min bs.length 3 := by rw [List.length_take, Nat.min_comm]
  rw [← hl] at h1 ⊢
  refine (rnew W B w F _ (bs.take 3) hH h1 ⟨by have := hb.1; rw [hl]; omega, fun x hx => hb.2 x (List.mem_of_mem_take hx)⟩).mono ?_
  rintro e' w' ⟨rb, rfl, h⟩
  exact ⟨rb, rfl, h⟩

end Go.Proofs.Ytpnnalkihcemhaa.Frag
