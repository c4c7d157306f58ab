/- Two channels by the program: what holds at each step; scripts as arguments. -/
import Derived.Test.YtlhlkjllihbokaaChGood
import Derived.Test.YtlhlkjllihbokaaChTk2
import Derived.Test.YtlhlkjllihbokaaOpen
set_option linter.unusedVariables false
set_option linter.unusedSimpArgs false
namespace Go.Proofs.Ytlhlkjllihbokaa.Chan
open Go.Sort Go.RowKit Go.Deep Go.WideShapes Go.ChangeShapes Go.Proofs.Ytlhlkjllihbokaa.Mem Go.Proofs.Ytlhlkjllihbokaa.Open Go.Proofs.Ytlhlkjllihbokaa.Num Go.Proofs.Ytlhlkjllihbokaa.Step Go.Proofs.Ytlhlkjllihbokaa.Ser Go.Proofs.YtlhlkjllihbokaaW.PrintWords

structure POp where
  kind : Int
  n : Int
def POp.cells (o : POp) : List Value := [.int .i64 o.kind, .int .i64 o.n]
theorem pop_size : Try.prog.cellsOf 49 = 2 := by kernel_rfl
theorem pop_flat : flat Try.prog 3 49 = some [.int .i64, .int .i64] := by kernel_rfl
theorem pop_of {H : Type} {enc : TypeId × Value → H} {W : World} {base : Nat} {sp : Nat → Bool} {held : Bool} {fuel : Nat} {cs : List Value} {x : DataW H × List MemPlace}
    (hx : DataW.trod enc Try.prog W base sp held fuel 49 cs = some x) : ∃ o : POp, cs = o.cells ∧ True := by
  have h0 := flat_ok 3 _ _ _ _ _ pop_flat hx
  obtain ⟨n1, c1, rfl, w1, h1⟩ := h0.int_inv
  obtain ⟨n3, c3, rfl, w3, h3⟩ := h1.int_inv
  obtain rfl := h3.nil_inv
  exact ⟨⟨n1, n3⟩, rfl, trivial⟩

set_option maxRecDepth 100000 in
theorem open_pops {H : Type} {enc : TypeId × Value → H} {W : World} {base base' : Nat} {sp : Nat → Bool} {held : Bool} {v : Value} {d : DataW H} {ps : List MemPlace} {r : Reach}
    (hok : Value.okWide Try.prog W r base' 39 v) (h : DataW.Trod enc Try.prog W base sp held 39 v d ps) :
    ∃ l : List POp, RdL W v 2 (l.map POp.cells) := by
  obtain ⟨fuel, hf⟩ := trod_of Try.underlying39 hok h
  haveI : Inhabited POp := ⟨⟨0, 0⟩⟩
  obtain ⟨l, h1, _⟩ := open_rows (P := Try.prog) (t := 39) (e := 49) Try.underlying39 2 pop_size POp.cells (fun _ => True) (fun fuel cs x hx => pop_of hx) hf
  exact ⟨l, h1⟩
theorem pops_at {w : World} {v : Value} {l : List POp} (h : RdL w v 2 (l.map POp.cells)) :
    ∃ A c, v = .slice A l.length c ∧ l.length ≤ c ∧ c ≤ maxLen ∧ ∀ (i : Nat) (o : POp), l[i]? = some o → ∃ b off, A = some ⟨b, off, none⟩ ∧ b < w.heap.size ∧
      w.cell? ⟨b, off + i * 2, none⟩ = some (.int .i64 o.kind) ∧ w.cell? ⟨b, off + i * 2 + 1, none⟩ = some (.int .i64 o.n) := by
  obtain ⟨A, c, hv, hc, hm, hr⟩ := h.form (by decide)
  rw [List.length_map] at hv hc
  refine ⟨A, c, hv, hc, hm, fun i o hi => ?_⟩
  obtain ⟨b, off, hA, hb, hr⟩ := hr i (by rw [List.length_map]; exact (List.getElem?_eq_some_iff.1 hi).1)
  have he : (l.map POp.cells)[i]? = some o.cells := by rw [List.getElem?_map, hi]; rfl
  exact ⟨b, off, hA, hb, hr _ he 0 _ rfl, hr _ he 1 _ rfl⟩

/-- At step k: two ends of which at most k datagrams each were sent. -/
def LI (w0 : World) (e b e2 b2 k : Nat) (wr : World) : Prop :=
  ∃ x y F, Both x y ∧ x.sent.length ≤ k ∧ y.sent.length ≤ k ∧ Two w0 w0.heap.size wr e b x e2 b2 y F
theorem LI.swap {w0 wr : World} {e b e2 b2 k : Nat} (h : LI w0 e b e2 b2 k wr) : LI w0 e2 b2 e b k wr := by
  obtain ⟨x, y, F, h1, h2, h3, h4⟩ := h
  exact ⟨y, x, F, h1.swap, h3, h2, h4.swap⟩
theorem LI.next {w0 wr : World} {e b e2 b2 k : Nat} (h : LI w0 e b e2 b2 k wr) : LI w0 e b e2 b2 (k + 1) wr := by
  obtain ⟨x, y, F, h1, h2, h3, h4⟩ := h
  exact ⟨x, y, F, h1, by omega, by omega, h4⟩
theorem LI.ptr {w0 wr : World} {e b e2 b2 k : Nat} (h : LI w0 e b e2 b2 k wr) : wr.cell? ⟨e, 0, none⟩ = some (.pointer (some ⟨b, 0, none⟩)) := by
  obtain ⟨x, y, F, h1, h2, h3, vo, vs, va, vc, vo2, vs2, va2, vc2, h⟩ := h
  exact h.cell 0 rfl
theorem LI.below {w0 wr : World} {e b e2 b2 k : Nat} (h : LI w0 e b e2 b2 k wr) : Below w0.heap.size w0 wr := by
  obtain ⟨x, y, F, h1, h2, h3, vo, vs, va, vc, vo2, vs2, va2, vc2, h⟩ := h
  exact h.below
theorem Two.same {W w w' : World} {B e b e2 b2 : Nat} {x y : End} {F : List Ent} (h : Two W B w e b x e2 b2 y F) (hb : Below w.heap.size w w') : Two W B w' e b x e2 b2 y F := by
  obtain ⟨vo, vs, va, vc, vo2, vs2, va2, vc2, h⟩ := h
  exact ⟨vo, vs, va, vc, vo2, vs2, va2, vc2, hbelowed' h hb⟩

theorem li_send {w0 w : World} {e b e2 b2 k : Nat} (h : LI w0 e b e2 b2 k w) (hk : k ≤ 400) :
    Calls Try.prog 19 #[.pointer (some ⟨e, 0, none⟩)] w fun e' w' => e' = .returned (.tuple #[]) ∧ LI w0 e b e2 b2 (k + 1) w' := by
  obtain ⟨x, y, F, h1, h2, h3, h4⟩ := h
  refine (tsend _ _ w e b e2 b2 x y F (by omega) h1.1.opl h4).mono ?_
  rintro e' w' ⟨rfl, h⟩
  exact ⟨rfl, _, _, _, send_good h1, by simp [End.send]; omega, by omega, h⟩

theorem two_take {W w : World} {B e b e2 b2 : Nat} {x y : End} {F : List Ent} (n : Int) (h : Two W B w e b x e2 b2 y F) (hb : Both x y) (hx : x.sent.length ≤ 1000) (hy : y.sent.length ≤ 1000) :
    Calls Try.prog 20 #[.pointer (some ⟨e, 0, none⟩), .pointer (some ⟨e2, 0, none⟩), .int .i64 n] w fun e' w' => e' = .returned (.bool true) ∧ ∃ x' y' F', Both x' y' ∧ x'.sent.length = x.sent.length ∧ y'.sent.length = y.sent.length ∧
      Two W B w' e b x' e2 b2 y' (F' ++ F) ∧ ∀ (k : Nat) (hk : k < y.sent.length), n = k → (takeW x.win (y.sent[k]).n).2 = true → x' = x.take y.sent[k] ∧ y' = y.comes k := by
  by_cases hn : n < 0 ∨ (y.sent.length : Int) ≤ n
  · refine (two_out W B w e b e2 b2 x y n F hn h).mono ?_
    rintro e' w' ⟨rfl, h⟩
    exact ⟨rfl, x, y, [], hb, rfl, rfl, h, fun k hk hkn => by omega⟩
  · obtain ⟨k, rfl⟩ := Int.eq_ofNat_of_zero_le (by omega : 0 ≤ n)
    have hk : k < y.sent.length := by omega
    refine (two_in W B w e b e2 b2 x y k _ F (fine_of hb k hk hy hx) h).mono ?_
    rintro e' w' ⟨rfl, F', h⟩
    by_cases hok : (takeW x.win (y.sent[k]).n).2 = true
    · rw [if_pos hok, if_pos hok] at h
      refine ⟨rfl, _, _, _, take_good hb k hk hy hok, rfl, rfl, h, fun k2 hk2 h2 _ => ?_⟩
      obtain rfl : k = k2 := Int.ofNat.inj h2
      exact ⟨rfl, rfl⟩
    · rw [if_neg hok, if_neg hok] at h
      refine ⟨rfl, _, _, _, hb, rfl, rfl, h, fun k2 hk2 h2 h3 => ?_⟩
      obtain rfl : k = k2 := Int.ofNat.inj h2
      exact absurd h3 hok

theorem Two.sent {W w : World} {B e b e2 b2 : Nat} {x y : End} {F : List Ent} (h : Two W B w e b x e2 b2 y F) : ∃ A c, w.cell? ⟨e, 1, none⟩ = some (.slice A x.sent.length c) := by
  obtain ⟨vo, vs, va, vc, vo2, vs2, va2, vc2, h⟩ := h
  obtain ⟨A, c, rfl⟩ := h.up3.slice
  exact ⟨A, c, h.cell 1 rfl⟩
theorem Two.acks {W w : World} {B e b e2 b2 : Nat} {x y : End} {F : List Ent} (h : Two W B w e b x e2 b2 y F) (h0 : 0 < x.sent.length) : ∃ g c, w.cell? ⟨e, 2, none⟩ = some (.slice (some ⟨g, 0, none⟩) x.sent.length c) ∧ ∀ k, k < x.sent.length → x.acked[k]? = some true → w.cell? ⟨g, k, none⟩ = some (.bool true) := by
  obtain ⟨vo, vs, va, vc, vo2, vs2, va2, vc2, h⟩ := h
  obtain ⟨g, c, rfl, _⟩ := h.up4.row h0
  exact ⟨g, c, h.cell 2 rfl, fun k hk hx => (h.up4.rcell k (by omega)).trans (bls_at _ _ _ hx)⟩
theorem Two.ptr {W w : World} {B e b e2 b2 : Nat} {x y : End} {F : List Ent} (h : Two W B w e b x e2 b2 y F) : w.cell? ⟨e, 0, none⟩ = some (.pointer (some ⟨b, 0, none⟩)) := by
  obtain ⟨vo, vs, va, vc, vo2, vs2, va2, vc2, h⟩ := h
  exact h.cell 0 rfl
theorem Two.below {W w : World} {B e b e2 b2 : Nat} {x y : End} {F : List Ent} (h : Two W B w e b x e2 b2 y F) : Below B W w := by
  obtain ⟨vo, vs, va, vc, vo2, vs2, va2, vc2, h⟩ := h
  exact h.below

theorem li_take {w0 w : World} {e b e2 b2 k : Nat} (n : Int) (h : LI w0 e b e2 b2 k w) (hk : k ≤ 400) :
    Calls Try.prog 20 #[.pointer (some ⟨e, 0, none⟩), .pointer (some ⟨e2, 0, none⟩), .int .i64 n] w fun e' w' => e' = .returned (.bool true) ∧ LI w0 e b e2 b2 (k + 1) w' := by
  obtain ⟨x, y, F, h1, h2, h3, h4⟩ := h
  refine (two_take n h4 h1 (by omega) (by omega)).mono ?_
  rintro e' w' ⟨rfl, x', y', F', hb, hx, hy, h, _⟩
  exact ⟨rfl, _, _, _, hb, by omega, by omega, h⟩

theorem li_open {w0 w : World} {e b e2 b2 k : Nat} (h : LI w0 e b e2 b2 k w) :
    Calls Try.prog 21 #[.pointer (some ⟨b, 0, none⟩)] w fun e' w' => ∃ A N c, e' = .returned (.slice A (N : Nat) c) ∧ N ≤ 64 ∧ LI w0 e b e2 b2 k w' := by
  obtain ⟨x, y, F, h1, h2, h3, vo, vs, va, vc, vo2, vs2, va2, vc2, h⟩ := h
  have h := Holds.sel [_, _, _, _, _, _, _, _, _, _, _, _] h [1, 2, 0, 3, 4, 5, 6, 7, 8, 9, 10, 11] rfl
  simp only [pick, List.getElem?_cons_succ, List.getElem?_cons_zero, List.append_eq, List.cons_append, List.nil_append] at h
  refine (copen _ _ w b _ _ _ _ h1.1.opl ⟨vo, h⟩).mono ?_
  rintro e' w' ⟨v', rfl, vo, h⟩
  obtain ⟨A, c, rfl⟩ := h.up2.slice
  refine ⟨A, _, c, rfl, h1.1.opl, x, y, F, h1, h2, h3, vo, vs, va, vc, vo2, vs2, va2, vc2, ?_⟩
  have h := Holds.sel [_, _, _, _, _, _, _, _, _, _, _, _, _] h [3, 0, 1, 4, 5, 6, 7, 8, 9, 10, 11, 12] rfl
  simp only [pick, List.getElem?_cons_succ, List.getElem?_cons_zero, List.append_eq, List.cons_append, List.nil_append] at h
  exact h

end Go.Proofs.Ytlhlkjllihbokaa.Chan
