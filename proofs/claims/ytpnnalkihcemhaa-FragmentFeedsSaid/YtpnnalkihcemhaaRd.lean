/- The reader of bits: New, Take, Left, OK. -/
import Derived.Test.YtpnnalkihcemhaaWr
import Derived.Test.YtpnnalkihcemhaaBitsR
set_option linter.unusedVariables false
set_option linter.unusedSimpArgs false
namespace Go.Proofs.Ytpnnalkihcemhaa.Wr
open Go.RowKit Go.Proofs.Ytpnnalkihcemhaa.Mem Go.Proofs.Ytpnnalkihcemhaa.Bits Go.Proofs.Ytpnnalkihcemhaa.Num Go.Proofs.YtpnnalkihcemhaaW.PrintWords

/-- A reader of the bytes bs, at a bit, at the head of block b. -/
def HasR (W : World) (B : Nat) (w : World) (b : Nat) (e : TypeId) (bs : List Int) (at_ : Nat) (fail : Bool) (F : List Ent) : Prop :=
  ∃ v, Holds W B w (.st b [v, .int .i64 (at_ : Int), .bool fail] e :: .rw v 5 1 bs.length (nums .u8 bs) :: F)

def bytesOk (bs : List Int) : Prop := bs.length ≤ 100000000 ∧ ∀ c, c ∈ bs → 0 ≤ c ∧ c < 256

set_option maxHeartbeats 1000000 in
theorem rnew (W : World) (B : Nat) (w : World) (F : List Ent) (v : Value) (bs : List Int) (hH : Holds W B w F) (hr : Rd w v bs.length (nums .u8 bs)) (hb : bytesOk bs) :
    Calls Try.prog 36 #[v] w fun e' w' => ∃ b, e' = .returned (.pointer (some ⟨b, 0, none⟩)) ∧ HasR W B w' b 124 bs 0 false F := by
  have HB := Lib.hid hb.1
  go_enter Try.func36, Try.ntmps36
  go_wp2_with fail
  refine (clone W B _ _ _ bs.length (nums .u8 bs) hH hr (by simp [nums]) (by intro u hu; simp [nums] at hu; obtain ⟨x, _, rfl⟩ := hu; rfl) (by have := HB.out; omega)).mono ?_
  rintro e' w1 ⟨v', rfl, h1⟩
  obtain ⟨A, c, rfl⟩ := h1.slice
  have H2 := Lib.hid (h1.alloc [.slice A bs.length c, .int .i64 0, .bool false] 124)
  clear h1 hH
  go_wp2_with fail
  go_ret
  exact ⟨w1.heap.size, rfl, .slice A bs.length c, H2.out⟩

theorem rleft (W : World) (B : Nat) (w : World) (b : Nat) (e : TypeId) (bs : List Int) (at_ : Nat) (fail : Bool) (F : List Ent) (hw : HasR W B w b e bs at_ fail F) (hb : bytesOk bs) (hat : at_ ≤ 8 * bs.length) :
    Calls Try.prog 56 #[.pointer (some ⟨b, 0, none⟩)] w fun e' w' => e' = .returned (.int .i64 (8 * (bs.length : Int) - (at_ : Int))) ∧ Drawn0 w w' := by
  obtain ⟨v, hH⟩ := hw
  obtain ⟨A, c, rfl⟩ := hH.up1.slice
  have c0 := hH.cell 0 (v := .slice A bs.length c) rfl
  have c1 := hH.cell 1 (v := .int .i64 (at_ : Int)) rfl
  have hl := hb.1
  clear hb
  have e1 : IntKind.i64.wrap (8 * (bs.length : Int)) = 8 * (bs.length : Int) := by rw [wrap_i64]; unfold wrap64; omega
  have e2 : IntKind.i64.wrap (8 * (bs.length : Int) - (at_ : Int)) = 8 * (bs.length : Int) - (at_ : Int) := by rw [wrap_i64]; unfold wrap64; omega
  go_enter Try.func56, Try.ntmps56
  go_wp2_with fail
  go_quiet (fail)
  go_wp2_with fail
  go_ret
  exact ⟨rfl, by first | exact ⟨⟨_, rfl⟩⟩ | exact ((Drawn0.refl _).step _).step _⟩

theorem rok (W : World) (B : Nat) (w : World) (b : Nat) (e : TypeId) (bs : List Int) (at_ : Nat) (fail : Bool) (F : List Ent) (hw : HasR W B w b e bs at_ fail F) :
    Calls Try.prog 45 #[.pointer (some ⟨b, 0, none⟩)] w fun e' w' => e' = .returned (.bool (!fail)) ∧ w = w' := by
  obtain ⟨v, hH⟩ := hw
  have c2 := hH.cell 2 (v := .bool fail) rfl
  go_enter Try.func45, Try.ntmps45
  go_wp2
  go_ret
  exact ⟨rfl, rfl⟩

/-- The reader fails: nothing is taken. -/
theorem rtake_not (W : World) (B : Nat) (w : World) (b : Nat) (e : TypeId) (bs : List Int) (at_ : Nat) (fail : Bool) (F : List Ent) (n : Int) (hw : HasR W B w b e bs at_ fail F) (hb : bytesOk bs) (hat : at_ ≤ 8 * bs.length)
    (hn : fail = true ∨ n < 0 ∨ 64 < n ∨ 8 * (bs.length : Int) - (at_ : Int) < n) :
    Calls Try.prog 44 #[.pointer (some ⟨b, 0, none⟩), .int .i64 n] w fun e' w' => e' = .returned (.int .u64 0) ∧ HasR W B w' b e bs at_ true F := by
  obtain ⟨v, hH⟩ := hw
  have c2 := hH.cell 2 (v := .bool fail) rfl
  have f2 := hH.frozen 2
  have fin : ∀ k, HasR W B ((w.drewN k).setCell ⟨b, 2, none⟩ (.bool true)) b e bs at_ true F := fun k => ⟨v, (hH.drewN k).set 2 (.bool true)⟩
  have Fin := Lib.hid fin
  clear fin
  cases fail with
  | true =>
    clear hn
    have Fin0 : Hid (HasR W B (w.setCell ⟨b, 2, none⟩ (.bool true)) b e bs at_ true F) := ⟨v, hH.set 2 (.bool true)⟩
    go_enter Try.func44, Try.ntmps44
    go_wp2_with fail
    go_ret
    exact ⟨rfl, Fin0.out⟩
  | false =>
    have Fin0 : Hid (HasR W B (w.setCell ⟨b, 2, none⟩ (.bool true)) b e bs at_ true F) := ⟨v, hH.set 2 (.bool true)⟩
    by_cases h0 : n < 0
    · have t0 : decide (n < 0) = true := by simpa using h0
      go_enter Try.func44, Try.ntmps44
      go_wp2_with fail
      go_ret
      exact ⟨rfl, Fin0.out⟩
    · have t0 : decide (n < 0) = false := by simpa using h0
      by_cases h1 : 64 < n
      · have t1 : decide (64 < n) = true := by simpa using h1
        go_enter Try.func44, Try.ntmps44
        go_wp2_with fail
        go_ret
        exact ⟨rfl, Fin0.out⟩
      · have t1 : decide (64 < n) = false := by simpa using h1
        have t2 : decide (8 * (bs.length : Int) - (at_ : Int) < n) = true := by
          have : 8 * (bs.length : Int) - (at_ : Int) < n := by rcases hn with h | h | h | h <;> first | (exact absurd h (by decide)) | omega
          simpa using this
        clear hn
        have HL := Lib.hid (rleft W B w b e bs at_ false F ⟨v, hH⟩ hb hat)
        go_enter Try.func44, Try.ntmps44
        go_wp2_with fail
        refine HL.out.mono ?_
        rintro e' w1 ⟨rfl, hd⟩
        obtain ⟨m, rfl⟩ := hd.out
        go_wp2_with fail
        go_ret
        exact ⟨rfl, Fin.out m⟩

end Go.Proofs.Ytpnnalkihcemhaa.Wr
