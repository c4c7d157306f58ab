/- Scripts for a sender as arguments; the two senders side by side. -/
import Derived.Test.YtpnnalkihcemhaaStrRConf
import Derived.Test.YtpnnalkihcemhaaOpen
set_option linter.unusedVariables false
set_option linter.unusedSimpArgs false
namespace Go.Proofs.Ytpnnalkihcemhaa.Str
open Go.Sort Go.RowKit Go.Deep Go.WideShapes Go.ChangeShapes Go.Proofs.Ytpnnalkihcemhaa.Mem Go.Proofs.Ytpnnalkihcemhaa.Open Go.Proofs.Ytpnnalkihcemhaa.Bits Go.Proofs.Ytpnnalkihcemhaa.Wr Go.Proofs.Ytpnnalkihcemhaa.Num Go.Proofs.Ytpnnalkihcemhaa.Step Go.Proofs.YtpnnalkihcemhaaW.PrintWords

structure SOp where
  kind : Int
  s : ByteArray
  n : Int
def SOp.cells (o : SOp) : List Value := [.int .i64 o.kind, .string o.s, .int .u32 o.n]
def SOp.wf (o : SOp) : Prop := o.s.size ≤ maxLen ∧ 0 ≤ o.n ∧ o.n < 4294967296

theorem sop_size : Try.prog.cellsOf 70 = 3 := by kernel_rfl
theorem sop_flat : flat Try.prog 3 70 = some [.int .i64, .str, .int .u32] := by kernel_rfl

theorem sop_of {H : Type} {enc : TypeId × Value → H} {W : World} {base : Nat} {sp : Nat → Bool} {held : Bool} {fuel : Nat} {cs : List Value} {x : DataW H × List MemPlace}
    (hx : DataW.trod enc Try.prog W base sp held fuel 70 cs = some x) : ∃ o : SOp, cs = o.cells ∧ o.wf := by
  have h0 := flat_ok 3 _ _ _ _ _ sop_flat hx
  obtain ⟨n1, c1, rfl, w1, h1⟩ := h0.int_inv
  obtain ⟨s, c2, rfl, w2, h2⟩ := h1.str_inv
  obtain ⟨n3, c3, rfl, w3, h3⟩ := h2.int_inv
  obtain rfl := h3.nil_inv
  refine ⟨⟨n1, s, n3⟩, rfl, ?_⟩
  simp [Lit.wf, IntKind.min, IntKind.max, IntKind.signed, IntKind.bits] at w3
  exact ⟨w2, by simp only; omega, by simp only; omega⟩

set_option maxRecDepth 100000 in
theorem open_sops {H : Type} {enc : TypeId × Value → H} {W : World} {base base' : Nat} {sp : Nat → Bool} {held : Bool} {v : Value} {d : DataW H} {ps : List MemPlace} {r : Reach}
    (hok : Value.okWide Try.prog W r base' 60 v) (h : DataW.Trod enc Try.prog W base sp held 60 v d ps) :
    ∃ l : List SOp, RdL W v 3 (l.map SOp.cells) ∧ ∀ o, o ∈ l → o.wf := by
  obtain ⟨fuel, hf⟩ := trod_of Try.underlying60 hok h
  haveI : Inhabited SOp := ⟨⟨0, ByteArray.empty, 0⟩⟩
  exact open_rows (P := Try.prog) (t := 60) (e := 70) Try.underlying60 3 sop_size SOp.cells SOp.wf (fun fuel cs x hx => sop_of hx) hf

theorem sops_at {w : World} {v : Value} {l : List SOp} (h : RdL w v 3 (l.map SOp.cells)) :
    ∃ A c, v = .slice A l.length c ∧ l.length ≤ c ∧ c ≤ maxLen ∧ ∀ (i : Nat) (o : SOp), l[i]? = some o → ∃ b off, A = some ⟨b, off, none⟩ ∧ b < w.heap.size ∧
      w.cell? ⟨b, off + i * 3, none⟩ = some (.int .i64 o.kind) ∧ w.cell? ⟨b, off + i * 3 + 1, none⟩ = some (.string o.s) ∧ w.cell? ⟨b, off + i * 3 + 2, none⟩ = some (.int .u32 o.n) := by
  obtain ⟨A, c, hv, hc, hm, hr⟩ := h.form (by decide)
  rw [List.length_map] at hv hc
  refine ⟨A, c, hv, hc, hm, fun i o hi => ?_⟩
  obtain ⟨b, off, hA, hb, hr⟩ := hr i (by rw [List.length_map]; exact (List.getElem?_eq_some_iff.1 hi).1)
  have he : (l.map SOp.cells)[i]? = some o.cells := by rw [List.getElem?_map, hi]; rfl
  exact ⟨b, off, hA, hb, hr _ he 0 _ rfl, hr _ he 1 _ rfl, hr _ he 2 _ rfl⟩

/-- The sender at b1, the reference's at b2. -/
def SQ (w wx : World) (b1 b2 : Nat) (l : List ByteArray) (g : Int) (all : List ByteArray) (g2 : Nat) (F : List Ent) : Prop :=
  ∃ v v2, Holds w w.heap.size wx (.st b1 [.int .u32 g, v] 65 :: .qu v 9 (strs l) :: .st b2 [v2, .int .i64 (g2 : Int)] 68 :: .rw v2 9 1 all.length (strs all) :: F)

section
variable {w wx wy : World} {b1 b2 : Nat} {l all : List ByteArray} {g : Int} {g2 : Nat} {F : List Ent}
theorem SQ.below (h : SQ w wx b1 b2 l g all g2 F) : Below w.heap.size w wx := by obtain ⟨_, _, h⟩ := h; exact h.below
theorem SQ.then (h : SQ w wx b1 b2 l g all g2 F) (hb : Below wx.heap.size wx wy) : SQ w wy b1 b2 l g all g2 F := by
  obtain ⟨v, v2, h⟩ := h
  exact ⟨v, v2, Holds.belowed h hb⟩
theorem SQ.drew (h : SQ w wx b1 b2 l g all g2 F) : SQ w wx.drew b1 b2 l g all g2 F := h.then ((Drawn0.refl wx).step _ |>.below)

theorem sq_queue {t : ByteArray} {er : Int} {l' : List ByteArray} (h : SQ w wx b1 b2 l g all g2 F) (hl : l.length ≤ 32) (he : qerr l t = er) (hl' : qnext l t = l') :
    Calls Try.prog 25 #[.pointer (some ⟨b1, 0, none⟩), .string t] wx fun e' w' => e' = .returned (.int .i64 er) ∧ SQ w w' b1 b2 l' g all g2 F := by
  obtain ⟨v, v2, h⟩ := h
  refine (squeue w w.heap.size wx b1 g l _ t ⟨v, h⟩ hl).mono ?_
  rintro e' w' ⟨rfl, v', h'⟩
  rw [he]
  rw [hl'] at h'
  exact ⟨rfl, v', v2, h'⟩

theorem sq_rqueue {t : ByteArray} {er : Int} {all' : List ByteArray} (h : SQ w wx b1 b2 l g all g2 F) (hg : g2 ≤ all.length) (hl : all.length ≤ 300) (h32 : all.length - g2 ≤ 32) (htm : t.size ≤ maxLen) (he : qerr (all.drop g2) t = er) (hl' : (if er = 0 then all ++ [t] else all) = all') :
    Calls Try.prog 26 #[.pointer (some ⟨b2, 0, none⟩), .string t] wx fun e' w' => e' = .returned (.int .i64 er) ∧ SQ w w' b1 b2 l g all' g2 F := by
  obtain ⟨v, v2, h⟩ := h
  refine (rqueue w w.heap.size wx b2 all g2 _ t ⟨v2, h.up3.up3⟩ hg hl h32 htm).mono ?_
  rintro e' w' ⟨rfl, v', h'⟩
  rw [he]
  rw [he, hl'] at h'
  exact ⟨rfl, v, v', h'.up3.up3⟩

theorem sq_confirm {n : Int} {c : Nat} (h : SQ w wx b1 b2 l g all g2 F) (h0 : 0 ≤ g) (h1 : g ≤ 100000) (hl : l.length ≤ 32) (w0 : 0 ≤ n) (w1 : n < 4294967296) (hc : confN g l.length n = c) :
    Calls Try.prog 32 #[.pointer (some ⟨b1, 0, none⟩), .int .u32 n] wx fun e' w' => e' = .returned (.int .i64 (c : Int)) ∧ SQ w w' b1 b2 (l.drop c) (g + (c : Int)) all g2 F := by
  obtain ⟨v, v2, h⟩ := h
  refine (sconfirm w w.heap.size wx b1 g n l _ ⟨v, h⟩ h0 h1 hl w0 w1).mono ?_
  rintro e' w' ⟨rfl, v', h'⟩
  rw [hc] at h' ⊢
  exact ⟨rfl, v', v2, h'⟩

theorem sq_rconfirm {n : Int} {c : Nat} (h : SQ w wx b1 b2 l g all g2 F) (hg : g2 ≤ all.length) (hl : all.length ≤ 300) (w0 : 0 ≤ n) (w1 : n < 4294967296) (hc : confN (g2 : Int) (all.length - g2) n = c) :
    Calls Try.prog 33 #[.pointer (some ⟨b2, 0, none⟩), .int .u32 n] wx fun e' w' => e' = .returned (.int .i64 (c : Int)) ∧ SQ w w' b1 b2 l g all (g2 + c) F := by
  obtain ⟨v, v2, h⟩ := h
  refine (rsconfirm w w.heap.size wx b2 all g2 _ n ⟨v2, h.up3.up3⟩ hg hl w0 w1).mono ?_
  rintro e' w' ⟨rfl, v', h'⟩
  rw [hc] at h' ⊢
  exact ⟨rfl, v, v', h'.up3.up3⟩
end

/-- The two side by side, as the law has them. -/
def SInv (l : List ByteArray) (g : Int) (all : List ByteArray) (g2 k : Nat) : Prop := l = all.drop g2 ∧ g = (g2 : Int) ∧ g2 ≤ all.length ∧ all.length ≤ k ∧ k ≤ 200 ∧ Fits all ∧ l.length ≤ 32 ∧ l.length = all.length - g2

theorem SInv.next {l all : List ByteArray} {g : Int} {g2 k : Nat} (h : SInv l g all g2 k) (hk : k + 1 ≤ 200) : SInv l g all g2 (k + 1) := by
  obtain ⟨h1, h2, h3, h4, h5, h6, h7, h8⟩ := h
  exact ⟨h1, h2, h3, by omega, hk, h6, h7, h8⟩

theorem SInv.queue {l all : List ByteArray} {g : Int} {g2 k : Nat} {t : ByteArray} (h : SInv l g all g2 k) (hk : k + 1 ≤ 200) : SInv (qnext l t) g (if qerr l t = 0 then all ++ [t] else all) g2 (k + 1) := by
  obtain ⟨h1, h2, h3, h4, h5, h6, h7, h8⟩ := h
  by_cases he : qerr l t = 0
  · have hn : qnext l t = l ++ [t] := if_pos he
    rw [if_pos he, hn]
    have hsz : t.size ≤ 60 := by
      unfold qerr at he
      split at he
      · rename_i hh; exact hh.2
      · cases he
    have h32 : l.length ≠ 32 := by
      intro h32
      unfold qerr at he
      rw [if_pos h32] at he
      split at he <;> cases he
    refine ⟨?_, h2, by simp; omega, by simp; omega, hk, ?_, by simp; omega, by simp; omega⟩
    · rw [List.drop_append_of_le_length h3, h1]
    · intro u hu
      rcases List.mem_append.1 hu with hu | hu
      · exact h6 u hu
      · have : u = t := by simpa using hu
        rw [this]; exact hsz
  · have hn : qnext l t = l := if_neg he
    rw [if_neg he, hn]
    exact ⟨h1, h2, h3, by omega, hk, h6, h7, h8⟩

theorem SInv.conf {l all : List ByteArray} {g : Int} {g2 k c : Nat} {n : Int} (h : SInv l g all g2 k) (hk : k + 1 ≤ 200) (hc : confN g l.length n = c) : SInv (l.drop c) (g + (c : Int)) all (g2 + c) (k + 1) := by
  obtain ⟨h1, h2, h3, h4, h5, h6, h7, h8⟩ := h
  have hcl : c ≤ l.length := by
    rw [← hc]
    unfold confN
    split <;> omega
  refine ⟨by rw [h1, List.drop_drop], by rw [h2]; omega, by omega, by omega, hk, h6, by rw [List.length_drop]; omega, by rw [List.length_drop]; omega⟩

end Go.Proofs.Ytpnnalkihcemhaa.Str
