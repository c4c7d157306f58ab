/- A channel's header put, and read, of whatever bits; by the program and by the reference. -/
import Derived.Test.YtlhlkjllihbokaaChOpen
import Derived.Test.YtlhlkjllihbokaaRef6c
import Derived.Test.YtlhlkjllihbokaaTake
import Derived.Test.YtlhlkjllihbokaaRRd
set_option linter.unusedVariables false
set_option linter.unusedSimpArgs false
namespace Go.Proofs.Ytlhlkjllihbokaa.Chan
open Go.Sort Go.RowKit Go.Proofs.Ytlhlkjllihbokaa.Mem Go.Proofs.Ytlhlkjllihbokaa.Open Go.Proofs.Ytlhlkjllihbokaa.Num Go.Proofs.Ytlhlkjllihbokaa.Step Go.Proofs.Ytlhlkjllihbokaa.Ser Go.Proofs.Ytlhlkjllihbokaa.Wr Go.Proofs.Ytlhlkjllihbokaa.Bits Go.Proofs.Ytlhlkjllihbokaa.RRd Go.Proofs.YtlhlkjllihbokaaW.PrintWords

def HdrOk (n a m : Int) : Prop := 0 ≤ n ∧ n < 65536 ∧ 0 ≤ a ∧ a < 65536 ∧ 0 ≤ m ∧ m < 4294967296
def hdrB (n : Int) (any : Bool) (a m : Int) : List Bool := bitsOf n 16 ++ bitsOf (b01 any) 1 ++ bitsOf a 16 ++ bitsOf m 32
theorem hdrB_len (n a m : Int) (any : Bool) : (hdrB n any a m).length = 65 := by
  unfold hdrB
  simp only [List.length_append, bitsOf_length]
/-- What Read gives of bits: the header's fields, and whether one came. -/
def readH (l : List Bool) : Int × Bool × Int × Int × Bool :=
  if l.length < 65 then (0, false, 0, 0, false)
  else if val ((l.drop 16).take 1) = 0 ∧ ¬ (val ((l.drop 17).take 16) = 0 ∧ val ((l.drop 33).take 32) = 0) then (0, false, 0, 0, false)
  else (val (l.take 16), decide (val ((l.drop 16).take 1) = 1), val ((l.drop 17).take 16), val ((l.drop 33).take 32), true)

theorem readH_put (n a m : Int) (any : Bool) (tl : List Bool) (h : HdrOk n a m) : readH (hdrB n any a m ++ tl) = if any = true ∨ (a = 0 ∧ m = 0) then (n, any, a, m, true) else (0, false, 0, 0, false) := by
  obtain ⟨h1, h2, h3, h4, h5, h6⟩ := h
  have e : hdrB n any a m ++ tl = bitsOf n 16 ++ (bitsOf (b01 any) 1 ++ (bitsOf a 16 ++ (bitsOf m 32 ++ tl))) := by unfold hdrB; simp only [List.append_assoc]
  have t1 : (hdrB n any a m ++ tl).take 16 = bitsOf n 16 := by rw [e, List.take_left' (bitsOf_length _ _)]
  have d1 : (hdrB n any a m ++ tl).drop 16 = bitsOf (b01 any) 1 ++ (bitsOf a 16 ++ (bitsOf m 32 ++ tl)) := by rw [e, List.drop_left' (bitsOf_length _ _)]
  have d2 : (hdrB n any a m ++ tl).drop 17 = bitsOf a 16 ++ (bitsOf m 32 ++ tl) := by rw [show 17 = 16 + 1 from rfl, ← List.drop_drop, d1, List.drop_left' (bitsOf_length _ _)]
  have d3 : (hdrB n any a m ++ tl).drop 33 = bitsOf m 32 ++ tl := by rw [show 33 = 17 + 16 from rfl, ← List.drop_drop, d2, List.drop_left' (bitsOf_length _ _)]
  unfold readH
  rw [if_neg (by rw [List.length_append, hdrB_len]; omega), t1, d1, d2, d3, List.take_left' (bitsOf_length _ _), List.take_left' (bitsOf_length _ _), List.take_left' (bitsOf_length _ _),
    val_bitsOf _ _ h1, val_bitsOf _ _ h3, val_bitsOf _ _ h5, val_bitsOf _ _ (by cases any <;> decide), show (2 : Int) ^ 16 = 65536 by decide, show (2 : Int) ^ 32 = 4294967296 by decide,
    Int.emod_eq_of_lt h1 h2, Int.emod_eq_of_lt h3 h4, Int.emod_eq_of_lt h5 h6]
  cases any with
  | true =>
    rw [if_neg (by rintro ⟨h, _⟩; exact absurd h (by decide)), if_pos (.inl rfl)]
    rfl
  | false =>
    by_cases hz : a = 0 ∧ m = 0
    · rw [if_neg (by rintro ⟨_, h⟩; exact h hz), if_pos (.inr hz)]
      rfl
    · rw [if_pos ⟨by decide, hz⟩, if_neg (by rintro (h | h); exact absurd h (by decide); exact hz h)]

/-- A number of m bits is asked for, whatever the reader's state. -/
theorem rtk (W : World) (B : Nat) (w : World) (b : Nat) (e : TypeId) (bs : List Int) (at_ : Nat) (fl : Bool) (F : List Ent) (m : Nat) (hw : HasR W B w b e bs at_ fl F) (hb : bytesOk bs) (hat : at_ ≤ 8 * bs.length) (hm : m ≤ 64) :
    Calls Try.prog 42 #[.pointer (some ⟨b, 0, none⟩), .int .i64 (m : Int)] w fun e' w' => ∃ (x : Nat) (at' : Nat) (fl' : Bool), e' = .returned (.int .u64 (x : Int)) ∧ HasR W B w' b e bs at' fl' F ∧ at' ≤ 8 * bs.length ∧ x < 2 ^ m ∧
      ((fl' = false ∧ fl = false ∧ at' = at_ + m ∧ (x : Int) = val (((bitsB bs).drop at_).take m)) ∨ (fl' = true ∧ x = 0 ∧ (fl = true ∨ 8 * bs.length < at_ + m))) := by
  by_cases h : fl = false ∧ at_ + m ≤ 8 * bs.length
  · obtain ⟨rfl, hle⟩ := h
    refine (rtake W B w b e bs at_ F (m : Int) hw hb (by omega) (by omega) (by omega)).mono ?_
    rintro e' w' ⟨rfl, h1⟩
    rw [Int.toNat_natCast] at h1 ⊢
    have hr := val_take_range ((bitsB bs).drop at_) m
    refine ⟨(val (((bitsB bs).drop at_).take m)).toNat, _, false, ?_, h1, hle, ?_, .inl ⟨rfl, rfl, rfl, by omega⟩⟩
    · rw [show (((val (((bitsB bs).drop at_).take m)).toNat : Nat) : Int) = val (((bitsB bs).drop at_).take m) by omega]
    · have h2 : ((2 ^ m : Nat) : Int) = 2 ^ m := by simp
      omega
  · refine (rtake_not W B w b e bs at_ fl F (m : Int) hw hb hat ?_).mono ?_
    · cases fl with
      | true => exact .inl rfl
      | false =>
        right; right; right
        have : ¬ at_ + m ≤ 8 * bs.length := fun h' => h ⟨rfl, h'⟩
        omega
    · rintro e' w' ⟨rfl, h1⟩
      refine ⟨0, at_, true, rfl, h1, hat, Nat.pow_pos (by decide), .inr ⟨rfl, rfl, ?_⟩⟩
      cases fl with
      | true => exact .inl rfl
      | false =>
        right
        have : ¬ at_ + m ≤ 8 * bs.length := fun h' => h ⟨rfl, h'⟩
        omega

/-- So far n bits have been read of L, or it failed and L has fewer than 65. -/
def Far (L : List Bool) (n : Nat) (fl : Bool) (a : Nat) : Prop := (fl = false ∧ a = n ∧ n ≤ L.length) ∨ (fl = true ∧ L.length < 65)
theorem far_next {L : List Bool} {n m a a' x : Nat} {fl fl' : Bool} (h : Far L n fl a) (hle : n + m ≤ 65) (ha : a' ≤ L.length)
    (hc : (fl' = false ∧ fl = false ∧ a' = a + m ∧ (x : Int) = val ((L.drop a).take m)) ∨ (fl' = true ∧ x = 0 ∧ (fl = true ∨ L.length < a + m))) : Far L (n + m) fl' a' ∧ (fl' = false → (x : Int) = val ((L.drop n).take m)) := by
  rcases hc with ⟨h1, h2, h3, h4⟩ | ⟨h1, _, h3⟩
  · rcases h with ⟨_, g2, _⟩ | ⟨g1, _⟩
    · subst g2
      exact ⟨.inl ⟨h1, h3, by omega⟩, fun _ => h4⟩
    · rw [h2] at g1; cases g1
  · refine ⟨.inr ⟨h1, ?_⟩, fun h => by rw [h1] at h; cases h⟩
    rcases h with ⟨g1, g2, _⟩ | ⟨_, g2⟩
    · rcases h3 with h3 | h3
      · rw [g1] at h3; cases h3
      · omega
    · exact g2
theorem far_end {L : List Bool} {fl : Bool} {a x1 x2 x3 x4 : Nat} (h : Far L 65 fl a) : (fl = true ∧ readH L = (0, false, 0, 0, false)) ∨ (fl = false ∧ ((x1 : Int) = val (L.take 16) → (x2 : Int) = val ((L.drop 16).take 1) → (x3 : Int) = val ((L.drop 17).take 16) → (x4 : Int) = val ((L.drop 33).take 32) →
    readH L = if (x2 : Int) = 0 ∧ ¬ ((x3 : Int) = 0 ∧ (x4 : Int) = 0) then (0, false, 0, 0, false) else ((x1 : Int), decide ((x2 : Int) = 1), (x3 : Int), (x4 : Int), true))) := by
  rcases h with ⟨h1, _, h2⟩ | ⟨h1, h2⟩
  · refine .inr ⟨h1, fun e1 e2 e3 e4 => ?_⟩
    unfold readH
    rw [if_neg (by omega), ← e1, ← e2, ← e3, ← e4]
  · refine .inl ⟨h1, ?_⟩
    unfold readH
    rw [if_pos h2]

theorem u64_16 {x : Int} (h0 : 0 ≤ x) (h : x < 65536) : IntKind.u64.wrap x = x ∧ x % 18446744073709551616 = x ∧ x < 18446744073709551616 := by rw [wrap_u64]; omega
theorem u64_32 {x : Int} (h0 : 0 ≤ x) (h : x < 4294967296) : IntKind.u64.wrap x = x ∧ x % 18446744073709551616 = x ∧ x < 18446744073709551616 := by rw [wrap_u64]; omega

set_option maxHeartbeats 1000000 in
theorem chput (W : World) (B : Nat) (w : World) (b : Nat) (t : TypeId) (L : List Bool) (F : List Ent) (n a m : Int) (any : Bool) (hw : HasW W B w b t L F) (hL : L.length ≤ 1000) (hok : HdrOk n a m) :
    Calls Try.prog 22 #[.pointer (some ⟨b, 0, none⟩), .agg #[.int .u16 n, .bool any, .int .u16 a, .int .u32 m]] w fun e' w' => e' = .returned (.tuple #[]) ∧ HasW W B w' b t (L ++ hdrB n any a m) F := by
  obtain ⟨h1, h2, h3, h4, h5, h6⟩ := hok
  obtain ⟨v0, hH⟩ := hw
  have hx := (hH.alloc [.int .u16 n, .bool any, .int .u16 a, .int .u32 m] 56).up2.up2
  have e0 := hx.up2.cell 0 rfl
  obtain ⟨p1, p2, p3⟩ := u64_16 h1 h2
  obtain ⟨q1, q2, q3⟩ := u64_16 h3 h4
  obtain ⟨r1, r2, r3⟩ := u64_32 h5 h6
  have hp := put W B _ b t L _ n 16 ⟨v0, hx⟩ h1 p3 (by decide) (by decide) (by omega)
  have HP := Lib.hid hp
  have HL := Lib.hid hL
  have HR := Lib.hid (And.intro h3 (And.intro q3 (And.intro h5 r3)))
  clear hH hx hp hL h1 h2 h3 h4 h5 h6 p3 q3 r3
  go_enter Try.func22, Try.ntmps22
  go_wp2_with fail
  refine HP.out.mono ?_
  rintro e' w1 ⟨rfl, v1, h1⟩
  have e1 := h1.up2.cell 1 rfl
  have hp := put W B w1 b t _ _ (b01 any) 1 ⟨v1, h1⟩ (by cases any <;> decide) (by cases any <;> decide) (by decide) (by decide) (by have := HL.out; simp [bitsOf_length]; omega)
  have HP1 := Lib.hid hp
  clear hp h1 HP e0 p1 p2
  have key : ∀ (K : Prop), (∀ (w2 : World) (v2 : Value), Holds W B w2 (.st b [v2, .int .i64 ((L ++ bitsOf n 16 ++ bitsOf (b01 any) 1).length : Int)] t :: .rw v2 5 1 (nby (L ++ bitsOf n 16 ++ bitsOf (b01 any) 1)) (nums .u8 (pack (L ++ bitsOf n 16 ++ bitsOf (b01 any) 1))) :: .st w.heap.size [.int .u16 n, .bool any, .int .u16 a, .int .u32 m] 56 :: F) → K) → True := fun _ _ => trivial
  clear key
  cases any with
  | true =>
    go_wp2_with fail
    refine HP1.out.mono ?_
    rintro e' w2 ⟨rfl, v2, h2⟩
    have e2 := h2.up2.cell 2 rfl
    have hp := put W B w2 b t _ _ a 16 ⟨v2, h2⟩ HR.out.1 HR.out.2.1 (by decide) (by decide) (by have := HL.out; simp [bitsOf_length]; omega)
    have HP2 := Lib.hid hp
    clear hp h2 HP1 e1
    go_wp2_with fail
    refine HP2.out.mono ?_
    rintro e' w3 ⟨rfl, v3, h3⟩
    have e3 := h3.up2.cell 3 rfl
    have hp := put W B w3 b t _ _ m 32 ⟨v3, h3⟩ HR.out.2.2.1 HR.out.2.2.2 (by decide) (by decide) (by have := HL.out; simp [bitsOf_length]; omega)
    have HP3 := Lib.hid hp
    clear hp h3 HP2 e2
    go_wp2_with fail
    refine HP3.out.mono ?_
    rintro e' w4 ⟨rfl, v4, h4⟩
    have H4 := Lib.hid h4
    clear h4 HP3 e3
    go_wp2_with fail
    go_end0
    refine ⟨rfl, v4, ?_⟩
    have := H4.out.up2.tail
    unfold hdrB
    simp only [← List.append_assoc]
    exact this
  | false =>
    go_wp2_with fail
    refine HP1.out.mono ?_
    rintro e' w2 ⟨rfl, v2, h2⟩
    have e2 := h2.up2.cell 2 rfl
    have hp := put W B w2 b t _ _ a 16 ⟨v2, h2⟩ HR.out.1 HR.out.2.1 (by decide) (by decide) (by have := HL.out; simp [bitsOf_length]; omega)
    have HP2 := Lib.hid hp
    clear hp h2 HP1 e1
    go_wp2_with fail
    refine HP2.out.mono ?_
    rintro e' w3 ⟨rfl, v3, h3⟩
    have e3 := h3.up2.cell 3 rfl
    have hp := put W B w3 b t _ _ m 32 ⟨v3, h3⟩ HR.out.2.2.1 HR.out.2.2.2 (by decide) (by decide) (by have := HL.out; simp [bitsOf_length]; omega)
    have HP3 := Lib.hid hp
    clear hp h3 HP2 e2
    go_wp2_with fail
    refine HP3.out.mono ?_
    rintro e' w4 ⟨rfl, v4, h4⟩
    have H4 := Lib.hid h4
    clear h4 HP3 e3
    go_wp2_with fail
    go_end0
    refine ⟨rfl, v4, ?_⟩
    have := H4.out.up2.tail
    unfold hdrB
    simp only [← List.append_assoc]
    exact this

end Go.Proofs.Ytlhlkjllihbokaa.Chan
