/- Four messages as an argument and in memory; what Split makes, beside what is held. -/
import Derived.Test.YtpnnalkihcemhaaWholeP
import Derived.Test.YtpnnalkihcemhaaFeedC
set_option linter.unusedVariables false
set_option linter.unusedSimpArgs false
namespace Go.Proofs.Ytpnnalkihcemhaa.Frag
open Go.Sort Go.RowKit Go.Deep Go.WideShapes Go.ChangeShapes Go.Proofs.Ytpnnalkihcemhaa.Mem Go.Proofs.Ytpnnalkihcemhaa.Bits Go.Proofs.Ytpnnalkihcemhaa.Open Go.Proofs.Ytpnnalkihcemhaa.Num Go.Proofs.Ytpnnalkihcemhaa.Wr Go.Proofs.Ytpnnalkihcemhaa.Step Go.Proofs.YtpnnalkihcemhaaW.PrintWords

theorem Ent.ok.less {x : Ent} {B B' : Nat} {w : World} (h : x.ok B' w) (hb : B ≤ B') : x.ok B w := by
  cases x with
  | st b cs e => exact ⟨Nat.le_trans hb h.1, h.2⟩
  | rw v e size n xs =>
    refine ⟨h.1, ?_⟩
    rcases h.2 with hn | ⟨g, cap, cur, rfl, hB, hg, rest⟩
    · exact .inl hn
    · exact .inr ⟨g, cap, cur, rfl, Nat.le_trans hb hB, hg, rest⟩
  | qu v e xs =>
    rcases h with hn | ⟨g, off, cap, cur, rfl, hB, hg, rest⟩
    · exact .inl hn
    · exact .inr ⟨g, off, cap, cur, rfl, Nat.le_trans hb hB, hg, rest⟩
  | ob b o => exact ⟨Nat.le_trans hb h.1, h.2⟩
/-- What a call made, beside what was held. -/
theorem Holds.join {W w w' : World} {B : Nat} {F N : List Ent} (h : Holds W B w F) (hn : Holds w w.heap.size w' N) : Holds W B w' (N ++ F) := by
  have h2 := Holds.belowed h hn.below
  refine ⟨h2.below, h2.size, fun e he => ?_, ?_⟩
  · rcases List.mem_append.1 he with he | he
    · exact Ent.ok.less (hn.each e he) h.size
    · exact h2.each e he
  · rw [List.filterMap_append]
    refine List.nodup_append.2 ⟨hn.nodup, h.nodup, fun a ha b hb hab => ?_⟩
    subst hab
    obtain ⟨x, hx, hxk⟩ := List.mem_filterMap.1 ha
    obtain ⟨y, hy, hyk⟩ := List.mem_filterMap.1 hb
    have h3 := ((hn.each x hx).lt hxk).1
    have h4 := ((h.each y hy).lt hyk).2
    omega
theorem mbytes_h (W : World) (B : Nat) (w : World) (F : List Ent) (hH : Holds W B w F) (i s x : Int) (hm : MsgOk i s x) {bs : List Int} (hbs : msgB s x = bs) :
    Calls Try.prog 16 #[.agg #[.int .u16 i, .int .u16 s, .int .u8 x]] w fun e' w' => ∃ A c, e' = .returned (.slice A bs.length c) ∧ Holds W B w' (.rw (.slice A bs.length c) 5 1 bs.length (nums .u8 bs) :: F) := by
  refine (mbytes w i s x hm.2.2.1 hm.2.2.2.1 hm.2.2.2.2.1 hm.2.2.2.2.2).mono ?_
  rintro e' w' ⟨v', rfl, h⟩
  rw [hbs] at h
  obtain ⟨A, c, rfl⟩ := h.slice
  exact ⟨A, c, rfl, Holds.join hH h⟩
theorem fsplit_h (W : World) (B : Nat) (w : World) (F : List Ent) (hH : Holds W B w F) (id : Int) (v : Value) (bs : List Int) (hi0 : 0 ≤ id) (hi1 : id < 65536) (hv : Rd w v bs.length (nums .u8 bs)) (he : errS bs = 0) :
    Calls Try.prog 15 #[.int .u16 id, v] w fun e' w' => ∃ (v' : Value) (vs : List Value), e' = .returned (.tuple #[v', .int .i64 0]) ∧ vs.length = cnt bs.length ∧ Holds W B w' (.rw v' 25 1 (cnt bs.length) vs :: (pieces id bs vs ++ F)) := by
  obtain ⟨h0, h4⟩ := errS_zero he
  refine (fsplit_own w id v bs hi0 hi1 hv h0 h4).mono ?_
  rintro e' w' ⟨v', rfl, vs, P, hl, hP, _, hperm⟩
  exact ⟨v', vs, rfl, hl, Holds.join hH (hP.perm (hperm.cons _))⟩
theorem fsplit_n (W : World) (B : Nat) (w : World) (F : List Ent) (hH : Holds W B w F) (id : Int) (v : Value) (bs : List Int) (hi0 : 0 ≤ id) (hi1 : id < 65536) (hv : Rd w v bs.length (nums .u8 bs)) (he : errS bs ≠ 0) :
    Calls Try.prog 15 #[.int .u16 id, v] w fun e' w' => ∃ (A : Option Addr) (n c : Nat), e' = .returned (.tuple #[.slice A n c, .int .i64 (errS bs)]) ∧ Holds W B w' F := by
  refine (fsplit w id v bs hi0 hi1 hv).mono ?_
  rintro e' w' ⟨v', rfl, hb, hr⟩
  obtain ⟨A, c, rfl, _⟩ := hr.form
  exact ⟨_, _, _, rfl, Holds.belowed hH hb⟩

/-- The messages' cells. -/
def mc (M : List (Int × Int × Int)) : List Value := M.flatMap fun t => [.int .u16 t.1, .int .u16 t.2.1, .int .u8 t.2.2]
theorem mc_len (M : List (Int × Int × Int)) : (mc M).length = M.length * 3 := by
  induction M with
  | nil => rfl
  | cons t M ih =>
    simp only [mc, List.flatMap_cons, List.length_append, List.length_cons, List.length_nil] at ih ⊢
    omega
theorem mc_split (M : List (Int × Int × Int)) (k : Nat) (t : Int × Int × Int) (h : M[k]? = some t) : mc M = mc (M.take k) ++ ([.int .u16 t.1, .int .u16 t.2.1, .int .u8 t.2.2] ++ mc (M.drop (k + 1))) := by
  obtain ⟨hk, rfl⟩ := List.getElem?_eq_some_iff.1 h
  have e : M = M.take k ++ M[k] :: M.drop (k + 1) := by rw [← List.drop_eq_getElem_cons hk, List.take_append_drop]
  conv => lhs; rw [e]
  unfold mc
  rw [List.flatMap_append, List.flatMap_cons]
theorem mc_take_len {M : List (Int × Int × Int)} {k : Nat} (h : k < M.length) : (mc (M.take k)).length = k * 3 := by
  rw [mc_len, List.length_take, Nat.min_eq_left (Nat.le_of_lt h)]
theorem mc_at (M : List (Int × Int × Int)) (k : Nat) (t : Int × Int × Int) (h : M[k]? = some t) (i : Nat) (hi : i < 3) : (mc M)[k * 3 + i]? = [Value.int .u16 t.1, .int .u16 t.2.1, .int .u8 t.2.2][i]? := by
  have hk := (List.getElem?_eq_some_iff.1 h).1
  rw [mc_split M k t h, List.getElem?_append_right (by rw [mc_take_len hk]; omega), mc_take_len hk, Nat.add_sub_cancel_left, List.getElem?_append_left (by simpa using hi)]
theorem mc_set (M : List (Int × Int × Int)) (k : Nat) (t : Int × Int × Int) (h : M[k]? = some t) (y : Int) : (mc M).set (k * 3) (.int .u16 y) = mc (M.set k (y, t.2)) := by
  have hk := (List.getElem?_eq_some_iff.1 h).1
  have h2 : (M.set k (y, t.2))[k]? = some (y, t.2) := List.getElem?_set_self hk
  rw [mc_split M k t h, mc_split _ k _ h2, List.set_append_right _ _ (by rw [mc_take_len hk]; omega), mc_take_len hk, Nat.sub_self, List.take_set_of_le (Nat.le_refl _), List.drop_set_of_lt (by omega)]
  rfl

/-- The ids of the first k are turned. -/
def turned (M : List (Int × Int × Int)) (k : Nat) : List (Int × Int × Int) := M.mapIdx fun i t => if i < k then (t.1 % 4096 * 4 + (i : Int), t.2) else t
theorem turned_len (M : List (Int × Int × Int)) (k : Nat) : (turned M k).length = M.length := by simp [turned]
theorem turned_at (M : List (Int × Int × Int)) (k i : Nat) : (turned M k)[i]? = (M[i]?).map fun t => if i < k then (t.1 % 4096 * 4 + (i : Int), t.2) else t := by simp [turned]
theorem turned_zero (M : List (Int × Int × Int)) : turned M 0 = M := by
  refine List.ext_getElem? fun i => ?_
  rw [turned_at]
  cases M[i]? <;> simp
theorem turned_next (M : List (Int × Int × Int)) (k : Nat) (t : Int × Int × Int) (h : M[k]? = some t) : (turned M k).set k (t.1 % 4096 * 4 + (k : Int), t.2) = turned M (k + 1) := by
  have hk := (List.getElem?_eq_some_iff.1 h).1
  refine List.ext_getElem? fun i => ?_
  rw [turned_at, List.getElem?_set]
  by_cases hi : k = i
  · subst hi
    rw [if_pos rfl, if_pos (by rw [turned_len]; exact hk), h]
    simp
  · rw [if_neg hi, turned_at]
    cases hM : M[i]? with
    | none => rfl
    | some u =>
      simp only [Option.map_some]
      by_cases hlt : i < k
      · rw [if_pos hlt, if_pos (by omega)]
      · rw [if_neg hlt, if_neg (by omega)]

/-- What is fed of message m. -/
def sntOf (M : List (Int × Int × Int)) (m : Nat) : Snt := ⟨(M.getD m (0, 0, 0)).1 % 4096 * 4 + (m : Int), msgB (M.getD m (0, 0, 0)).2.1 (M.getD m (0, 0, 0)).2.2⟩
theorem sntOf_apart {M : List (Int × Int × Int)} (a b : Nat) (ha : a < 4) (hb : b < 4) (h : a ≠ b) : (sntOf M a).id ≠ (sntOf M b).id := by
  unfold sntOf
  simp only
  omega
theorem sntOf_id {M : List (Int × Int × Int)} (m : Nat) (hm : m < 4) : 0 ≤ (sntOf M m).id ∧ (sntOf M m).id < 65536 := by
  unfold sntOf
  simp only
  omega

theorem arr_under : Try.prog.underlying 53 = some (.array 4 24) := by kernel_rfl
theorem msg_cells : Try.prog.cellsOf 24 = 3 := by kernel_rfl
theorem arr_cells : Try.prog.cellsOf 53 = 12 := by kernel_rfl

theorem msg_cut {H : Type} {enc : TypeId × Value → H} {W : World} {base : Nat} {sp : Nat → Bool} {held : Bool} {fuel : Nat} {cs : List Value} {x : DataW H × List MemPlace}
    (hx : DataW.trod enc Try.prog W base sp held fuel 24 cs = some x) : ∃ i s y : Int, cs = [.int .u16 i, .int .u16 s, .int .u8 y] ∧ MsgOk i s y := by
  have h0 := flat_ok 3 _ _ _ _ _ msg_flat hx
  obtain ⟨n1, c1, rfl, w1, h1⟩ := h0.int_inv
  obtain ⟨n2, c2, rfl, w2, h2⟩ := h1.int_inv
  obtain ⟨n3, c3, rfl, w3, h3⟩ := h2.int_inv
  obtain rfl := h3.nil_inv
  refine ⟨n1, n2, n3, rfl, ?_⟩
  simp [Lit.wf, IntKind.min, IntKind.max, IntKind.signed, IntKind.bits] at w1 w2 w3
  unfold MsgOk
  omega

set_option maxRecDepth 100000 in
theorem open_four {H : Type} {enc : TypeId × Value → H} {W : World} {base base' : Nat} {sp : Nat → Bool} {held : Bool} {v : Value} {d : DataW H} {ps : List MemPlace} {r : Reach}
    (hok : Value.okWide Try.prog W r base' 53 v) (h : DataW.Trod enc Try.prog W base sp held 53 v d ps) :
    ∃ M : List (Int × Int × Int), M.length = 4 ∧ v = .agg (mc M).toArray ∧ ∀ t ∈ M, MsgOk t.1 t.2.1 t.2.2 := by
  simp only [Value.okWide, arr_under] at hok
  obtain ⟨cs, rfl, hs, _⟩ := hok
  obtain ⟨fuel, hf⟩ := h
  obtain ⟨xs, m, _, _, hl, hxl, hel⟩ := DataW.trod_array arr_under hf
  simp only [Value.cells] at hl hel
  rw [msg_cells] at hel
  rw [arr_cells] at hl
  have get : ∀ i, i < 4 → ∃ a b y : Int, (cs.toList.drop (i * 3)).take 3 = [.int .u16 a, .int .u16 b, .int .u8 y] ∧ MsgOk a b y := by
    intro i hi
    have := hel i hi
    rw [List.getElem?_eq_getElem (by omega)] at this
    exact msg_cut this
  obtain ⟨a0, b0, y0, e0, o0⟩ := get 0 (by decide)
  obtain ⟨a1, b1, y1, e1, o1⟩ := get 1 (by decide)
  obtain ⟨a2, b2, y2, e2, o2⟩ := get 2 (by decide)
  obtain ⟨a3, b3, y3, e3, o3⟩ := get 3 (by decide)
  refine ⟨[(a0, b0, y0), (a1, b1, y1), (a2, b2, y2), (a3, b3, y3)], rfl, ?_, ?_⟩
  · have hc : cs.toList = mc [(a0, b0, y0), (a1, b1, y1), (a2, b2, y2), (a3, b3, y3)] := by
      have d3 : cs.toList.drop 9 = [.int .u16 a3, .int .u16 b3, .int .u8 y3] := by rw [← e3, List.take_of_length_le]; rw [List.length_drop]; omega
      have d2 : cs.toList.drop 6 = [.int .u16 a2, .int .u16 b2, .int .u8 y2] ++ cs.toList.drop 9 := by rw [← e2, show 9 = 6 + 3 from rfl, ← List.drop_drop, List.take_append_drop]
      have d1 : cs.toList.drop 3 = [.int .u16 a1, .int .u16 b1, .int .u8 y1] ++ cs.toList.drop 6 := by rw [← e1, show 6 = 3 + 3 from rfl, ← List.drop_drop, List.take_append_drop]
      have d0 : cs.toList = [.int .u16 a0, .int .u16 b0, .int .u8 y0] ++ cs.toList.drop 3 := by rw [← e0]; simp
      rw [d0, d1, d2, d3]
      rfl
    rw [← hc]
  · intro t ht
    simp only [List.mem_cons, List.not_mem_nil, or_false] at ht
    rcases ht with rfl | rfl | rfl | rfl
    · exact o0
    · exact o1
    · exact o2
    · exact o3

theorem u16_size : Try.prog.cellsOf 22 = 1 := by kernel_rfl
theorem u16_flat : flat Try.prog 3 22 = some [.int .u16] := by kernel_rfl
theorem u16_of {H : Type} {enc : TypeId × Value → H} {W : World} {base : Nat} {sp : Nat → Bool} {held : Bool} {fuel : Nat} {cs : List Value} {x : DataW H × List MemPlace}
    (hx : DataW.trod enc Try.prog W base sp held fuel 22 cs = some x) : ∃ o : Int, cs = [Value.int .u16 o] ∧ (0 ≤ o ∧ o < 65536) := by
  have h0 := flat_ok 3 _ _ _ _ _ u16_flat hx
  obtain ⟨n1, c1, rfl, w1, h1⟩ := h0.int_inv
  obtain rfl := h1.nil_inv
  refine ⟨n1, rfl, ?_⟩
  simp [Lit.wf, IntKind.min, IntKind.max, IntKind.signed, IntKind.bits] at w1
  omega
set_option maxRecDepth 100000 in
theorem open_u16s {H : Type} {enc : TypeId × Value → H} {W : World} {base base' : Nat} {sp : Nat → Bool} {held : Bool} {v : Value} {d : DataW H} {ps : List MemPlace} {r : Reach}
    (hok : Value.okWide Try.prog W r base' 54 v) (h : DataW.Trod enc Try.prog W base sp held 54 v d ps) :
    ∃ l : List Int, (∃ A c, v = .slice A l.length c ∧ l.length ≤ c ∧ c ≤ maxLen ∧ ∀ (i : Nat) (o : Int), l[i]? = some o → ∃ b off, A = some ⟨b, off, none⟩ ∧ b < W.heap.size ∧ W.cell? ⟨b, off + i, none⟩ = some (.int .u16 o)) ∧ ∀ o, o ∈ l → 0 ≤ o ∧ o < 65536 := by
  obtain ⟨fuel, hf⟩ := trod_of Try.underlying54 hok h
  obtain ⟨l, h1, h2⟩ := open_rows (P := Try.prog) (t := 54) (e := 22) Try.underlying54 1 u16_size (fun n : Int => [Value.int .u16 n]) (fun n => 0 ≤ n ∧ n < 65536) (fun fuel cs x hx => u16_of hx) hf
  refine ⟨l, ?_, h2⟩
  obtain ⟨A, c, hv, hc, hm, hr⟩ := h1.form (by decide)
  rw [List.length_map] at hv hc
  refine ⟨A, c, hv, hc, hm, fun i o hi => ?_⟩
  obtain ⟨b, off, hA, hb, hr⟩ := hr i (by rw [List.length_map]; exact (List.getElem?_eq_some_iff.1 hi).1)
  have he : (l.map fun n => [Value.int .u16 n])[i]? = some [Value.int .u16 o] := by rw [List.getElem?_map, hi]; rfl
  have := hr _ he 0 _ rfl
  rw [Nat.mul_one] at this
  exact ⟨b, off, hA, hb, this⟩

/-- An assembler beside other pieces: these may turn. -/
theorem Asm.split {W w : World} {a : Nat} {l : List Msg} {F : List Ent} (h : Asm W w a l F) : ∃ G, Holds W W.heap.size w (F ++ G) ∧ ∀ w' F', Holds W W.heap.size w' (F' ++ G) → Asm W w' a l F' := by
  obtain ⟨h1, L, h2, h3, v, h4⟩ := h
  refine ⟨.st a [v] 41 :: .rw v 111 3 L.length (mrows L) :: L.flatMap MM.ents, ?_, fun w' F' h' => ⟨h1, L, h2, h3, v, ?_⟩⟩
  · have hp := List.perm_append_comm (l₁ := .st a [v] 41 :: .rw v 111 3 L.length (mrows L) :: L.flatMap MM.ents) (l₂ := F)
    simp only [List.cons_append] at hp
    exact h4.perm hp
  · have hp := List.perm_append_comm (l₁ := F') (l₂ := .st a [v] 41 :: .rw v 111 3 L.length (mrows L) :: L.flatMap MM.ents)
    simp only [List.cons_append] at hp
    exact h'.perm hp

end Go.Proofs.Ytpnnalkihcemhaa.Frag
