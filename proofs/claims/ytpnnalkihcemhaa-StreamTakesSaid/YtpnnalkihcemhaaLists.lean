/- A list of lists of bytes as an argument, of a size that memory can hold. -/
import Derived.Test.YtpnnalkihcemhaaFragO
import Derived.SizedLaws
set_option linter.unusedVariables false
set_option linter.unusedSimpArgs false
namespace Go.Proofs.Ytpnnalkihcemhaa.Frag
open Go.RowKit Go.Deep Go.WideShapes Go.ChangeShapes Go.Proofs.Ytpnnalkihcemhaa.Mem Go.Proofs.Ytpnnalkihcemhaa.Open Go.Proofs.Ytpnnalkihcemhaa.Num Go.Proofs.Ytpnnalkihcemhaa.Wr Go.Proofs.YtpnnalkihcemhaaW.PrintWords

theorem sl_size : Try.prog.cellsOf 25 = 1 := by kernel_rfl
theorem u8_bytes : Try.prog.bytesOf 5 = 1 := by kernel_rfl

theorem weights_in {H : Type} {P : Program} {e : TypeId} : ∀ {l : List (DataW H)} {d : DataW H}, d ∈ l → ∀ n ∈ d.weights P e, n ∈ DataW.weightsAll P e l
  | d0 :: l, d, h, n, hn => by
    simp only [DataW.weightsAll, List.mem_append]
    rcases List.mem_cons.1 h with rfl | h
    · exact .inl hn
    · exact .inr (weights_in h n hn)

set_option maxRecDepth 100000 in
theorem open_lists {H : Type} {enc : TypeId × Value → H} {W : World} {base base' : Nat} {sp : Nat → Bool} {held : Bool} {v : Value} {d : DataW H} {ps : List MemPlace} {r : Reach}
    (hok : Value.okWide Try.prog W r base' 27 v) (h : DataW.Trod enc Try.prog W base sp held 27 v d ps) (hz : ∀ n ∈ d.weights Try.prog 27, n ≤ reachBytes) :
    ∃ vs : List Value, RdL W v 1 (vs.map fun u => [u]) ∧ ∀ u, u ∈ vs → ∃ l : List Int, Rd W u l.length (nums .u8 l) ∧ (∀ o, o ∈ l → 0 ≤ o ∧ o < 256) ∧ l.length ≤ reachBytes := by
  obtain ⟨fuel, hf⟩ := trod_of Try.underlying27 hok h
  rcases open_slice1 Try.underlying27 sl_size hf with ⟨hv, _⟩ | ⟨a, len, cap, m, n, V, D, Pl, hv, hb, hl, hm, hmm, hx, hV⟩
  · simp only [List.cons.injEq, and_true] at hv
    exact ⟨[], .inl ⟨hv, rfl⟩, fun u hu => by simp at hu⟩
  · simp only [List.cons.injEq, and_true] at hv
    subst hv
    have hlm : len ≤ m := by rw [hmm]; split <;> omega
    simp only [Prod.mk.injEq] at hx
    obtain ⟨rfl, _⟩ := hx
    refine ⟨(List.range len).map V, .inr ⟨a, cap, by simp, by simpa using hl, hm, fun i cs hcs => ?_⟩, fun u hu => ?_⟩
    · rw [List.map_map] at hcs
      simp only [List.getElem?_map, Option.map_eq_some_iff] at hcs
      obtain ⟨i', hi', rfl⟩ := hcs
      obtain ⟨hil, rfl⟩ := List.getElem?_eq_some_iff.1 hi'
      simp only [List.getElem_range, List.length_range] at hil ⊢
      refine ⟨rfl, fun j u hu => ?_⟩
      cases j with
      | zero =>
        simp only [Function.comp, List.getElem?_cons_zero, Option.some.injEq] at hu
        subst hu
        rw [Nat.mul_one]
        exact (hV i (by omega)).1
      | succ j => simp at hu
    · obtain ⟨i, hi, rfl⟩ := List.mem_map.1 hu
      have hil : i < len := List.mem_range.1 hi
      obtain ⟨_, h2⟩ := hV i (by omega)
      obtain ⟨l, hl1, hl2⟩ := open_rows (P := Try.prog) (t := 25) (e := 5) Try.underlying25 1 byte_size (fun n : Int => [Value.int .u8 n]) (fun n => 0 ≤ n ∧ n < 256) (fun fuel cs x hx => byte_of hx) h2
      refine ⟨l, rd_of_rdl hl1, hl2, ?_⟩
      have hrd := rd_of_rdl hl1
      have hzi : ∀ n ∈ (D i).weights Try.prog 25, n ≤ reachBytes := fun n hn => hz n (by
        simp only [DataW.weights, Try.underlying27, List.mem_cons, List.mem_append]
        exact .inr (.inl (weights_in (List.mem_map.2 ⟨i, hi, rfl⟩) n hn)))
      rcases open_slice1 Try.underlying25 byte_size h2 with ⟨hv, _⟩ | ⟨a', len', cap', m', n', V', D', Pl', hv', _, hl', _, hmm', hx', _⟩
      · simp only [List.cons.injEq, and_true] at hv
        rw [hv] at hrd
        rcases hrd with ⟨_, h0, _⟩ | ⟨ad, c, he, _⟩
        · omega
        · cases he
      · simp only [List.cons.injEq, and_true] at hv'
        rw [hv'] at hrd
        simp only [Prod.mk.injEq] at hx'
        have hw := hzi ((((List.range len').map D').length + ((List.range (m' - len')).map fun j => D' (len' + j)).length) * Try.prog.bytesOf 5) (by
          rw [hx'.1]
          simp only [DataW.weights, Try.underlying25, List.mem_cons]
          exact .inl trivial)
        rw [u8_bytes] at hw
        simp only [List.length_map, List.length_range] at hw
        rcases hrd with ⟨he, _⟩ | ⟨ad, c, he, _⟩
        · cases he
        · simp only [Value.slice.injEq] at he
          omega

end Go.Proofs.Ytpnnalkihcemhaa.Frag
