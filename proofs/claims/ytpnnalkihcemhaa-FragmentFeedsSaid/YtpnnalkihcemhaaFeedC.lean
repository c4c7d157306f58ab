/- An assembler: what Feed and Waits answer, with the memory told in short. -/
import Derived.Test.YtpnnalkihcemhaaFeedW
import Derived.Test.YtpnnalkihcemhaaFeedT
set_option linter.unusedVariables false
set_option linter.unusedSimpArgs false
namespace Go.Proofs.Ytpnnalkihcemhaa.Frag
open Go.Sort Go.RowKit Go.Deep Go.Proofs.Ytpnnalkihcemhaa.Mem Go.Proofs.Ytpnnalkihcemhaa.Open Go.Proofs.Ytpnnalkihcemhaa.Num Go.Proofs.Ytpnnalkihcemhaa.Wr Go.Proofs.Ytpnnalkihcemhaa.Bits Go.Proofs.Ytpnnalkihcemhaa.Step Go.Proofs.YtpnnalkihcemhaaW.PrintWords

/-- The assembler in memory; all of it lies behind the world W. -/
def Asm (W w : World) (a : Nat) (l : List Msg) (F : List Ent) : Prop := AllOk l ∧ ∃ L, L.map MM.abs = l ∧ AS W W.heap.size w a L F

theorem Asm.start {W w : World} {F : List Ent} {a : Nat} (h : Holds W W.heap.size w (.st a [.slice none 0 0] 41 :: F)) : Asm W w a [] F :=
  ⟨⟨by simp, by simp⟩, [], rfl, by simp, .slice none 0 0, by
    have := (h.nilrow 111 3).up1
    exact this⟩
theorem Asm.below {W w : World} {a : Nat} {l : List Msg} {F : List Ent} (h : Asm W w a l F) : Below W.heap.size W w := by
  obtain ⟨_, L, _, hA⟩ := h
  exact hA.frame.below
theorem Asm.then {W w w' : World} {a : Nat} {l : List Msg} {F : List Ent} (h : Asm W w a l F) (hb : Below w.heap.size w w') : Asm W w' a l F := by
  obtain ⟨h1, L, h2, h3, v, h4⟩ := h
  exact ⟨h1, L, h2, h3, v, Holds.belowed h4 hb⟩

theorem afeed (W w : World) (a : Nat) (l : List Msg) (F : List Ent) (A : Option Addr) (c : Nat) (bs : List Int) (hS : Asm W w a l F) (hr : ∀ w', Holds W W.heap.size w' F → Rd w' (.slice A bs.length c) bs.length (nums .u8 bs)) (hb : bytesOk bs) :
    Calls Try.prog 19 #[.pointer (some ⟨a, 0, none⟩), .slice A bs.length c] w fun e' w' => ∃ Ao co, e' = .returned (.tuple #[.slice Ao ((feedA l bs).2.out.getD []).length co, .bool (feedA l bs).2.out.isSome, .int .i64 (feedA l bs).2.er]) ∧
      Rd w' (.slice Ao ((feedA l bs).2.out.getD []).length co) ((feedA l bs).2.out.getD []).length (nums .u8 ((feedA l bs).2.out.getD [])) ∧ Asm W w' a (feedA l bs).1 F := by
  obtain ⟨hok, L, rfl, hA⟩ := hS
  have hrw := hr w hA.frame
  obtain ⟨A1, c1, he, hc, _, hr1⟩ := Rd.form hrw (nums_length _ _)
  simp only [Value.slice.injEq, true_and] at he
  obtain ⟨rfl, rfl⟩ := he
  refine (feed W W.heap.size w a L A c bs F hok hb hr hc hA).mono ?_
  rintro e' w' ⟨L', h1, h2 | ⟨out, vo, h2, h3, h4⟩⟩
  · obtain ⟨ho, rfl, hA2⟩ := h2
    rw [ho]
    exact ⟨none, 0, rfl, .inl ⟨rfl, rfl, rfl⟩, feedA_ok hok, L', h1, hA2⟩
  · obtain ⟨hw, v, h5⟩ := h4
    have h6 := Holds.permMid (W := W) (B := W.heap.size) (w := w') (F := F) [] (M := (.st a [v] 41 :: .rw v 111 3 L'.length (mrows L') :: L'.flatMap MM.ents) ++ [.rw vo 5 1 out.length (nums .u8 out)])
      (M' := .rw vo 5 1 out.length (nums .u8 out) :: .st a [v] 41 :: .rw v 111 3 L'.length (mrows L') :: L'.flatMap MM.ents) (by simpa only [List.cons_append, List.append_assoc, List.nil_append] using h5)
      (List.perm_append_singleton (.rw vo 5 1 out.length (nums .u8 out)) (.st a [v] 41 :: .rw v 111 3 L'.length (mrows L') :: L'.flatMap MM.ents))
    obtain ⟨Ao, co, rfl⟩ := h6.slice
    rw [h2]
    refine ⟨Ao, co, h3, ?_, feedA_ok hok, L', h1, hw, v, ?_⟩
    · exact h6.rd
    · exact h6.tail

theorem waits (W w : World) (a : Nat) (l : List Msg) (F : List Ent) (hS : Asm W w a l F) :
    Calls Try.prog 22 #[.pointer (some ⟨a, 0, none⟩)] w fun e' w' => e' = .returned (.int .i64 (l.length : Int)) ∧ w' = w := by
  obtain ⟨hok, L, rfl, hw, v, h⟩ := hS
  obtain ⟨A, c, rfl⟩ := h.up1.slice
  have e0 := h.cell 0 rfl
  rw [List.length_map]
  clear hok hw h
  go_enter Try.func22, Try.ntmps22
  go_wp2_with fail
  go_ret
  exact ⟨rfl, rfl⟩

end Go.Proofs.Ytpnnalkihcemhaa.Frag
