/- The law FragmentWhole: four messages' parts, of other ids, fed once each in whatever order, give each message just with its last part. For all messages and orders; no condition. Here: the walk. -/
import Derived.Test.YtpnnalkihcemhaaWholeM
import Derived.Test.YtpnnalkihcemhaaFragO
import Derived.Test.YtpnnalkihcemhaaMix2
import Derived.Test.YtpnnalkihcemhaaSlc
import Derived.Deep.Cut
import Derived.Deep.CutRange
set_option linter.unusedVariables false
set_option linter.unusedSimpArgs false
namespace Go.Proofs.Ytpnnalkihcemhaa.Frag
open Go.Sort Go.RowKit Go.Deep Go.WideShapes Go.ChangeShapes Go.Proofs.Ytpnnalkihcemhaa.Mem Go.Proofs.Ytpnnalkihcemhaa.Bits Go.Proofs.Ytpnnalkihcemhaa.Open Go.Proofs.Ytpnnalkihcemhaa.Num Go.Proofs.Ytpnnalkihcemhaa.Wr Go.Proofs.Ytpnnalkihcemhaa.Step Go.Proofs.YtpnnalkihcemhaaW.PrintWords

theorem info_int : (Try.prog.info? 3).map (fun i => (i.zero, i.size, i.bytes)) = some (some (.int .i64 0), 1, 8) := by kernel_rfl
/-- A part's value, its message, its place. -/
abbrev Pt := Value × Nat × Nat
def aent (M : List (Int × Int × Int)) (a : Pt) : Ent := .rw a.1 5 1 (part (sntOf M a.2.1).id (sntOf M a.2.1).bs a.2.2).length (nums .u8 (part (sntOf M a.2.1).id (sntOf M a.2.1).bs a.2.2))
def ofs (A : List Pt) : List Value := A.map fun a => .int .i64 (a.2.1 : Nat)
def vals (A : List Pt) : List Value := A.map (·.1)
def lefts (Lf : List Nat) : List Value := Lf.map fun (n : Nat) => .int .i64 (n : Int)
/-- What lies in memory beside the assembler. -/
def wents (b2 b7 : Nat) (M : List (Int × Int × Int)) (k : Nat) (Lf : List Nat) (va vo : Value) (A : List Pt) (P : List Ent) : List Ent :=
  .st b2 (mc (turned M k)) 53 :: .st b7 (lefts Lf) 56 :: .rw va 25 1 A.length (vals A) :: .rw vo 3 1 A.length (ofs A) :: P
/-- The parts of the first k messages. -/
def remTo (M : List (Int × Int × Int)) (k : Nat) : List (Nat × Nat) := (List.range k).flatMap fun m => if errS (sntOf M m).bs = 0 then (List.range (sntOf M m).n).map fun j => (m, j) else []
def leftTo (M : List (Int × Int × Int)) (k : Nat) : List Nat := (List.range 4).map fun m => if m < k ∧ errS (sntOf M m).bs = 0 then (sntOf M m).n else 0

theorem turn_facts {x : Int} {k : Nat} (h0 : 0 ≤ x) (h1 : x < 65536) (hk : k < 4) : ∃ r : Int, x % 4096 = r ∧ x.tmod 4096 = r ∧ IntKind.u16.wrap r = r ∧ IntKind.u16.wrap (r * 4) = r * 4 ∧ IntKind.u16.wrap (k : Int) = (k : Int) ∧ IntKind.u16.wrap (r * 4 + (k : Int)) = r * 4 + (k : Int) ∧ (k : Int) % 65536 = (k : Int) ∧ r % 65536 = r ∧ r * 4 % 65536 = r * 4 ∧ (r * 4 + (k : Int)) % 65536 = r * 4 + (k : Int) := by
  refine ⟨x % 4096, rfl, Int.tmod_eq_emod_of_nonneg h0, ?_⟩
  rw [wrap_u16, wrap_u16, wrap_u16, wrap_u16]
  omega
theorem k4_facts {k : Nat} (h : k < 4) : (0 : Int) ≤ (k : Int) ∧ (k : Int) < 4 ∧ wrap64 ((k : Int) + 1) = (k : Int) + 1 ∧ IntKind.i64.wrap ((k : Int) + 1) = (k : Int) + 1 ∧ IntKind.i64.wrap (k : Int) = (k : Int) := by rw [wrap_i64, wrap_i64]; unfold wrap64; omega

theorem sntOf_at {M : List (Int × Int × Int)} {k : Nat} {x1 x2 x3 : Int} (h : M[k]? = some (x1, x2, x3)) : sntOf M k = ⟨x1 % 4096 * 4 + (k : Int), msgB x2 x3⟩ := by
  unfold sntOf
  rw [List.getD_eq_getElem?_getD, h]
  rfl

theorem left_at (M : List (Int × Int × Int)) (k i : Nat) (hi : i < 4) : (lefts (leftTo M k))[i]? = some (.int .i64 ((if i < k ∧ errS (sntOf M i).bs = 0 then (sntOf M i).n else 0 : Nat) : Int)) := by
  unfold lefts leftTo
  rw [List.getElem?_map, List.getElem?_map, List.getElem?_range hi]
  rfl
theorem left_len (M : List (Int × Int × Int)) (k : Nat) : (leftTo M k).length = 4 := by simp [leftTo]
theorem left_next (M : List (Int × Int × Int)) (k : Nat) (hk : k < 4) (he : errS (sntOf M k).bs = 0) : (lefts (leftTo M k)).set k (.int .i64 ((sntOf M k).n : Nat)) = lefts (leftTo M (k + 1)) := by
  refine List.ext_getElem? fun i => ?_
  by_cases hi : i < 4
  · rw [List.getElem?_set, left_at M (k + 1) i hi, left_at M k i hi]
    by_cases hki : k = i
    · subst hki
      rw [if_pos rfl, if_pos (by simp [lefts, left_len, hi]), if_pos ⟨Nat.lt_succ_self k, he⟩]
    · rw [if_neg hki]
      by_cases h1 : i < k ∧ errS (sntOf M i).bs = 0
      · rw [if_pos h1, if_pos ⟨by omega, h1.2⟩]
      · rw [if_neg h1, if_neg (fun h2 => h1 ⟨by omega, h2.2⟩)]
  · rw [List.getElem?_eq_none (by simp [lefts, left_len]; omega), List.getElem?_eq_none (by simp [lefts, left_len]; omega)]
theorem left_skip (M : List (Int × Int × Int)) (k : Nat) (he : errS (sntOf M k).bs ≠ 0) : leftTo M (k + 1) = leftTo M k := by
  unfold leftTo
  refine List.map_congr_left fun i _ => ?_
  by_cases h1 : i < k ∧ errS (sntOf M i).bs = 0
  · rw [if_pos h1, if_pos ⟨by omega, h1.2⟩]
  · rw [if_neg h1, if_neg]
    rintro ⟨h2, h3⟩
    by_cases hik : i = k
    · subst hik; exact he h3
    · exact h1 ⟨by omega, h3⟩
theorem rem_next (M : List (Int × Int × Int)) (k : Nat) : remTo M (k + 1) = remTo M k ++ if errS (sntOf M k).bs = 0 then (List.range (sntOf M k).n).map fun j => (k, j) else [] := by
  unfold remTo
  rw [List.range_succ, List.flatMap_append]
  simp
theorem err_vals {bs : List Int} (h : errS bs ≠ 0) : (errS bs != 0) = true := bne_iff_ne.2 h

/-- The first j parts of message k. -/
def pts (k : Nat) (vs : List Value) (j : Nat) : List Pt := (vs.take j).mapIdx fun i v => (v, k, i)
theorem pts_next {k j : Nat} {vs : List Value} {v : Value} (h : vs[j]? = some v) : pts k vs (j + 1) = pts k vs j ++ [(v, k, j)] := by
  unfold pts
  have hlt := (List.getElem?_eq_some_iff.1 h).1
  rw [List.take_add_one, h, Option.toList_some, List.mapIdx_concat, List.length_take, Nat.min_eq_left (Nat.le_of_lt hlt)]
theorem pts_len {k j : Nat} {vs : List Value} (h : j ≤ vs.length) : (pts k vs j).length = j := by
  unfold pts
  rw [List.length_mapIdx, List.length_take, Nat.min_eq_left h]
theorem pts_map {k : Nat} {vs : List Value} : (pts k vs vs.length).map (·.2) = (List.range vs.length).map fun j => (k, j) := by
  refine List.ext_getElem? fun i => ?_
  unfold pts
  rw [List.take_length, List.getElem?_map, List.getElem?_mapIdx, List.getElem?_map]
  by_cases hi : i < vs.length
  · rw [List.getElem?_eq_getElem hi, List.getElem?_range hi]
    rfl
  · rw [List.getElem?_eq_none (by omega), List.getElem?_eq_none (by simpa using hi)]
    rfl
theorem remTo_len (M : List (Int × Int × Int)) (k : Nat) : (remTo M k).length ≤ 14 * k := by
  induction k with
  | zero => simp [remTo]
  | succ k ih =>
    rw [rem_next, List.length_append]
    have : (if errS (sntOf M k).bs = 0 then (List.range (sntOf M k).n).map fun j => (k, j) else []).length ≤ 14 := by
      split
      · rename_i h
        rw [List.length_map, List.length_range]
        exact cnt_max (errS_zero h).2
      · simp
    omega
theorem pieces_at {id : Int} {bs : List Int} {vs : List Value} {j : Nat} {v : Value} (h : vs[j]? = some v) : .rw v 5 1 (part id bs j).length (nums .u8 (part id bs j)) ∈ pieces id bs vs := by
  unfold pieces
  refine List.mem_iff_getElem?.2 ⟨j, ?_⟩
  rw [List.getElem?_mapIdx, h]
  rfl
/-- A piece is a slice. -/
theorem mem_slice {W w : World} {B : Nat} {H : List Ent} {v : Value} {e : TypeId} {n : Nat} {xs : List Value} (h : Holds W B w H) (hm : .rw v e 1 n xs ∈ H) : ∃ A c, v = .slice A n c := by
  have h1 := h.each _ hm
  rcases h1.2 with ⟨rfl, h2⟩ | ⟨g, cap, cur, rfl, _⟩
  · exact ⟨none, 0, by rw [h2]⟩
  · exact ⟨_, _, rfl⟩
theorem a_few {n j m : Nat} (h : n ≤ 56) (hj : j ≤ 14) (hm : m = n + j) : m + 1 ≤ 1000000 := by omega

/-- How many are left of each. -/
def leftR (R : List (Nat × Nat)) : List Nat := (List.range 4).map (cntR R)
theorem countP_one (n k m : Nat) : ((List.range n).map fun j => (k, j)).countP (fun p : Nat × Nat => p.1 == m) = if k = m then n else 0 := by
  rw [List.countP_map]
  by_cases h : k = m
  · subst h
    rw [if_pos rfl, List.countP_eq_length.2 (by simp), List.length_range]
  · rw [if_neg h, List.countP_eq_zero]
    simp [h]
theorem cnt_remTo (M : List (Int × Int × Int)) (k m : Nat) : cntR (remTo M k) m = if m < k ∧ errS (sntOf M m).bs = 0 then (sntOf M m).n else 0 := by
  induction k with
  | zero => simp [remTo, cntR]
  | succ k ih =>
    have e : cntR (remTo M (k + 1)) m = cntR (remTo M k) m + cntR (if errS (sntOf M k).bs = 0 then (List.range (sntOf M k).n).map fun j => (k, j) else []) m := by
      rw [rem_next]; unfold cntR; rw [List.countP_append]
    rw [e, ih]
    have e2 : cntR (if errS (sntOf M k).bs = 0 then (List.range (sntOf M k).n).map fun j => (k, j) else []) m = if k = m ∧ errS (sntOf M k).bs = 0 then (sntOf M k).n else 0 := by
      by_cases he : errS (sntOf M k).bs = 0
      · rw [if_pos he]
        unfold cntR
        rw [countP_one]
        by_cases hk : k = m
        · rw [if_pos hk, if_pos ⟨hk, he⟩]
        · rw [if_neg hk, if_neg (fun h => hk h.1)]
      · rw [if_neg he, if_neg (fun h => he h.2)]
        rfl
    rw [e2]
    by_cases hk : k = m
    · subst hk
      by_cases he : errS (sntOf M k).bs = 0
      · rw [if_neg (by omega), if_pos ⟨rfl, he⟩, if_pos ⟨Nat.lt_succ_self k, he⟩, Nat.zero_add]
      · rw [if_neg (by omega), if_neg (fun h => he h.2), if_neg (fun h => he h.2)]
    · have e3 : (if k = m ∧ errS (sntOf M k).bs = 0 then (sntOf M k).n else 0) = 0 := if_neg (fun h => hk h.1)
      rw [e3, Nat.add_zero]
      by_cases h1 : m < k ∧ errS (sntOf M m).bs = 0
      · rw [if_pos h1, if_pos ⟨by omega, h1.2⟩]
      · rw [if_neg h1, if_neg (fun h2 => h1 ⟨by omega, h2.2⟩)]
theorem mem_remTo {M : List (Int × Int × Int)} {k : Nat} {p : Nat × Nat} (h : p ∈ remTo M k) : p.1 < k ∧ errS (sntOf M p.1).bs = 0 ∧ p.2 < (sntOf M p.1).n := by
  unfold remTo at h
  obtain ⟨m, hm, hp⟩ := List.mem_flatMap.1 h
  split at hp
  · rename_i he
    obtain ⟨j, hj, rfl⟩ := List.mem_map.1 hp
    exact ⟨List.mem_range.1 hm, he, List.mem_range.1 hj⟩
  · cases hp
theorem nodup_remTo (M : List (Int × Int × Int)) (k : Nat) : (remTo M k).Nodup := by
  induction k with
  | zero => simp [remTo]
  | succ k ih =>
    rw [rem_next]
    refine List.nodup_append.2 ⟨ih, ?_, fun a ha b hb hab => ?_⟩
    · split
      · refine List.Pairwise.map _ (fun a b hab => ?_) List.nodup_range
        intro h
        exact hab (Prod.mk.inj h).2
      · simp
    · subst hab
      have h1 := mem_remTo ha
      split at hb
      · obtain ⟨j, _, rfl⟩ := List.mem_map.1 hb
        exact Nat.lt_irrefl _ h1.1
      · cases hb
theorem WInv.start (M : List (Int × Int × Int)) : WInv (sntOf M) (remTo M 4) [] := by
  refine ⟨fun p hp => ?_, nodup_remTo M 4, by simp, by simp, by simp, by simp, by simp, fun m _ => ?_⟩
  · obtain ⟨h1, h2, h3⟩ := mem_remTo hp
    have := sntOf_id (M := M) p.1 h1
    exact ⟨h1, ⟨this.1, this.2, h2⟩, h3⟩
  · rw [cnt_remTo]
    split
    · exact .inr rfl
    · exact .inl rfl
theorem leftR_start (M : List (Int × Int × Int)) : leftTo M 4 = leftR (remTo M 4) := by
  unfold leftTo leftR
  refine List.map_congr_left fun m hm => ?_
  rw [cnt_remTo]
theorem leftR_at (R : List (Nat × Nat)) (m : Nat) (hm : m < 4) : (lefts (leftR R))[m]? = some (.int .i64 ((cntR R m : Nat) : Int)) := by
  unfold lefts leftR
  rw [List.getElem?_map, List.getElem?_map, List.getElem?_range hm]
  rfl
theorem leftR_set {R R' : List (Nat × Nat)} {m j : Nat} (hm : m < 4) (hp : R.Perm ((m, j) :: R')) : (lefts (leftR R)).set m (.int .i64 ((cntR R' m : Nat) : Int)) = lefts (leftR R') := by
  have hc : ∀ x, cntR R x = cntR R' x + if x = m then 1 else 0 := fun x => (cntR_perm hp x).trans (cntR_cons R' m j x)
  refine List.ext_getElem? fun i => ?_
  by_cases hi : i < 4
  · rw [List.getElem?_set, leftR_at R' i hi, leftR_at R i hi]
    by_cases hmi : m = i
    · subst hmi
      rw [if_pos rfl, if_pos (by simp [lefts, leftR, hi])]
    · rw [if_neg hmi, hc i, if_neg (fun h => hmi h.symm)]
      rfl
  · rw [List.getElem?_eq_none (by simp [lefts, leftR]; omega), List.getElem?_eq_none (by simp [lefts, leftR]; omega)]
def lenV : Value → Nat
  | .slice _ n _ => n
  | _ => 0

/-- Feed, with what it gives kept beside. -/
theorem afeed2 (W w : World) (a : Nat) (l : List Msg) (F : List Ent) (A : Option Addr) (c : Nat) (bs : List Int) (hS : Asm W w a l F) (hr : ∀ w', Holds W W.heap.size w' F → Rd w' (.slice A bs.length c) bs.length (nums .u8 bs)) (hb : bytesOk bs) :
    Calls Try.prog 19 #[.pointer (some ⟨a, 0, none⟩), .slice A bs.length c] w fun e' w' => ∃ Ao co, e' = .returned (.tuple #[.slice Ao ((feedA l bs).2.out.getD []).length co, .bool (feedA l bs).2.out.isSome, .int .i64 (feedA l bs).2.er]) ∧
      Asm W w' a (feedA l bs).1 (.rw (.slice Ao ((feedA l bs).2.out.getD []).length co) 5 1 ((feedA l bs).2.out.getD []).length (nums .u8 ((feedA l bs).2.out.getD [])) :: F) := by
  obtain ⟨hok, L, rfl, hA⟩ := hS
  have hrw := hr w hA.frame
  obtain ⟨A1, c1, he, hc, _, hr1⟩ := Rd.form hrw (nums_length _ _)
  simp only [Value.slice.injEq, true_and] at he
  obtain ⟨rfl, rfl⟩ := he
  refine (feed W W.heap.size w a L A c bs F hok hb hr hc hA).mono ?_
  rintro e' w' ⟨L', h1, h2 | ⟨out, vo, h2, h3, h4⟩⟩
  · obtain ⟨ho, rfl, hA2⟩ := h2
    rw [ho]
    obtain ⟨hw, v, h5⟩ := hA2
    refine ⟨none, 0, rfl, feedA_ok hok, L', h1, hw, v, ?_⟩
    have h6 := Holds.permMid (W := W) (B := W.heap.size) (w := w') (F := F) [] (M := .rw (.slice none 0 0) 5 1 0 [] :: (.st a [v] 41 :: .rw v 111 3 L'.length (mrows L') :: L'.flatMap MM.ents))
      (M' := (.st a [v] 41 :: .rw v 111 3 L'.length (mrows L') :: L'.flatMap MM.ents) ++ [.rw (.slice none 0 0) 5 1 0 []]) (by simpa only [List.cons_append, List.append_assoc, List.nil_append] using h5.nilrow 5 1)
      (List.perm_append_singleton _ _).symm
    simpa only [List.cons_append, List.append_assoc, List.nil_append, Option.getD_none, List.length_nil, nums, List.map_nil] using h6
  · rw [h2]
    obtain ⟨Ao, co, rfl⟩ : ∃ Ao co, vo = .slice Ao out.length co := by
      obtain ⟨hw, v, h5⟩ := h4
      exact mem_slice h5 (List.mem_cons_of_mem _ (List.mem_cons_of_mem _ (List.mem_append_right _ (List.mem_cons_self ..))))
    exact ⟨Ao, co, h3, feedA_ok hok, L', h1, h4⟩

set_option maxRecDepth 100000 in
theorem cut_sl (w : World) (g n : Nat) {c y : Nat} (h : y ≤ c) : (Instr.slice 27 (.slice (some ⟨g, 0, none⟩) n c) none (some (.int .i64 (y : Int))) none).run Try.prog w = .ok (.slice (some ⟨g, 0, none⟩) y c) w := by
  rw [run_slice_h w 27 (some ⟨g, 0, none⟩) n c Try.underlying27 .i64 (y : Int) (Int.natCast_nonneg _) (Int.ofNat_le.2 h)]
  have hs : ∀ w, (sizeOf (Try.prog.elem 27)).run Try.prog w = .ok 1 w := fun w => by kernel_rfl
  rw [hs]
  simp [Result.andThen, sliced, Addr.add]
set_option maxRecDepth 100000 in
theorem cut_int (w : World) (g n : Nat) {c y : Nat} (h : y ≤ c) : (Instr.slice 55 (.slice (some ⟨g, 0, none⟩) n c) none (some (.int .i64 (y : Int))) none).run Try.prog w = .ok (.slice (some ⟨g, 0, none⟩) y c) w := by
  rw [run_slice_h w 55 (some ⟨g, 0, none⟩) n c Try.underlying55 .i64 (y : Int) (Int.natCast_nonneg _) (Int.ofNat_le.2 h)]
  have hs : ∀ w, (sizeOf (Try.prog.elem 55)).run Try.prog w = .ok 1 w := fun w => by kernel_rfl
  rw [hs]
  simp [Result.andThen, sliced, Addr.add]
theorem whole_le {n y : Nat} (h : n = y + 1) : y ≤ n := by omega
theorem whole_n {N a : Nat} (h : N + a ≤ 56) : N < 1000 := by omega
theorem whole_next {N a n y : Nat} (h : N + a ≤ 56) (h1 : a = n) (h2 : n = y + 1) : N + 1 + y ≤ 56 := by omega
theorem whole_lt {n y c c' : Nat} {A A' : Option Addr} (h : n = y + 1) : lenV (.slice A y c) < lenV (.slice A' n c') := by simp only [lenV]; omega
theorem whole_y {a n y : Nat} (h1 : a = n) (h2 : n = y + 1) : y = a - 1 := by omega
theorem whole_last {a n y : Nat} (h1 : a = n) (h2 : n = y + 1) : a - 1 < a := by omega
theorem part_bytes' {id : Int} {bs : List Int} {j : Nat} (h : bytesOk bs) : bytesOk (part id bs j) := by
  refine ⟨by rw [part_length]; omega, fun c hc => ?_⟩
  unfold part at hc
  rcases List.mem_append.1 hc with hc | hc
  · exact pack_byte _ c hc
  · exact h.2 c (List.mem_of_mem_drop (List.mem_of_mem_take hc))
theorem ord_facts {o : Int} {n : Nat} (h0 : 0 ≤ o) (h1 : o < 65536) (hn : 0 < n) (h14 : n ≤ 1000) : ∃ k : Nat, k < n ∧ o.tmod (n : Int) = (k : Int) ∧ IntKind.i64.wrap o = o ∧ wrap64 o = o ∧ IntKind.i64.wrap (k : Int) = (k : Int) ∧ wrap64 (k : Int) = (k : Int) := by
  have h2 := Int.emod_nonneg o (show (n : Int) ≠ 0 by omega)
  have h3 := Int.emod_lt_of_pos o (show (0 : Int) < (n : Int) by omega)
  refine ⟨(o % (n : Int)).toNat, by omega, by rw [Int.tmod_eq_emod_of_nonneg h0]; omega, ?_, ?_, ?_, ?_⟩
  · rw [wrap_i64]; unfold wrap64; omega
  · unfold wrap64; omega
  · rw [wrap_i64]; unfold wrap64; omega
  · unfold wrap64; omega
theorem len_facts {n y : Nat} (h : n = y + 1) (h2 : n ≤ 1000) : (0 : Int) < (n : Int) ∧ (n : Int) - 1 = (y : Int) ∧ IntKind.i64.wrap ((n : Int) - 1) = (y : Int) ∧ wrap64 ((n : Int) - 1) = (y : Int) ∧ IntKind.i64.wrap (y : Int) = (y : Int) ∧ wrap64 (y : Int) = (y : Int) ∧ (0 : Int) ≤ (y : Int) ∧ (y : Int) < (n : Int) ∧ ((n : Int) == 0) = false ∧ ¬ (n : Int) = 0 ∧ (y : Int) ≤ (n : Int) := by
  rw [wrap_i64, wrap_i64]; unfold wrap64
  refine ⟨by omega, by omega, by omega, by omega, by omega, by omega, by omega, by omega, beq_eq_false_iff_ne.2 (by omega), by omega, by omega⟩

set_option maxRecDepth 100000 in
set_option maxHeartbeats 2000000 in
theorem fragmentWhole_core (w : World) (M : List (Int × Int × Int)) (hM4 : M.length = 4) (hMok : ∀ t ∈ M, MsgOk t.1 t.2.1 t.2.2) (Ao : Option Addr) (co : Nat) (ord : List Int)
    (hord : ∀ (i : Nat) (o : Int), ord[i]? = some o → ∃ b off, Ao = some ⟨b, off, none⟩ ∧ b < w.heap.size ∧ w.cell? ⟨b, off + i, none⟩ = some (.int .u16 o)) (hoc : ord.length ≤ co) (hord2 : ∀ o, o ∈ ord → 0 ≤ o ∧ o < 65536) :
    Calls Try.prog 6 #[.agg (mc M).toArray, .slice Ao ord.length co] w fun e' w' => e' = .returned (.bool true) ∧ Below w.heap.size w w' := by
  have h0 := (Holds.start w).alloc (mc M) 53
  have H0 := Lib.hid h0
  have HORD := Lib.hid (And.intro hord (And.intro hord2 hoc))
  have HM4 := Lib.hid (And.intro hM4 hMok)
  clear h0 hord hord2 hM4 hMok
  by_cases hbig : 100 < ord.length
  · have tb : decide ((100 : Int) < (ord.length : Int)) = true := by simp; omega
    clear hbig hoc
    go_enter Try.func6, Try.ntmps6
    go_wp2_with fail
    refine (awake15 _).mono ?_
    rintro e' w1 ⟨rfl, h1⟩
    have HB := Lib.hid (H0.out.below.trans (h1.mono H0.out.size))
    clear h1
    go_wp2_with fail
    refine (awake15 _).mono ?_
    rintro e' w3 ⟨rfl, h4⟩
    have HB2 := Lib.hid (HB.out.trans (h4.mono HB.out.size))
    clear h4
    go_wp2_with fail
    go_ret
    exact ⟨rfl, HB2.out⟩
  · have tb : decide ((100 : Int) < (ord.length : Int)) = false := by simp; omega
    have HS := Lib.hid (Nat.le_of_not_lt hbig)
    clear hbig hoc
    go_enter Try.func6, Try.ntmps6
    go_wp2_with fail
    refine (awake15 _).mono ?_
    rintro e' w1 ⟨rfl, h1⟩
    obtain ⟨b2, hb2⟩ : ∃ b2, w.heap.size = b2 := ⟨_, rfl⟩
    have h2 : Holds w w.heap.size w1 [.st b2 (mc M) 53] := by rw [← hb2]; exact Holds.belowed H0.out h1
    have h3 := h2.alloc (lefts [0, 0, 0, 0]) 56
    have H3 := Lib.hid h3
    have HE := Lib.hid hb2
    rw [hb2]
    clear h1 H0 h2 h3 hb2
    go_wp2_with fail
    obtain ⟨b7, hb7⟩ : ∃ b7, w1.heap.size = b7 := ⟨_, rfl⟩
    change Hid (Holds w w.heap.size (w1.alloc (.cells #[.int .i64 0, .int .i64 0, .int .i64 0, .int .i64 0] 56)) _) at H3
    rw [hb7] at H3 ⊢
    clear hb7
    generalize w1.alloc (.cells #[.int .i64 0, .int .i64 0, .int .i64 0, .int .i64 0] 56) = w2 at *
    go_loopw [5, 6, 8] (fun va vo iv wr => ∃ (k : Nat) (A : List Pt) (P : List Ent), Hid (k ≤ 4) ∧ iv = .int .i64 k ∧ Hid (A.map (·.2) = remTo M k ∧ (∀ a ∈ A, aent M a ∈ P)) ∧ Hid (Holds w w.heap.size wr (wents b2 b7 M k (leftTo M k) va vo A P))) (fun _ _ iv _ => 4 - (intOf iv).toNat)
    case atStart =>
      refine ⟨0, [], [], Lib.hid (Nat.zero_le _), rfl, Lib.hid ⟨rfl, by simp⟩, Lib.hid ?_⟩
      have hz := ((H3.out.up1).nilrow 3 1).nilrow 25 1
      have hy := Holds.sel [_, _, _, _] hz [2, 3, 0, 1] rfl
      simp only [pick, List.getElem?_cons_succ, List.getElem?_cons_zero, List.append_eq, List.cons_append, List.nil_append] at hy
      unfold wents
      rw [turned_zero]
      exact hy
    case round =>
      obtain ⟨k, A, P, HK, rfl, HA, HS⟩ := hrel
      clear H3
      by_cases hk : k < 4
      · obtain ⟨k0, k1, k2, k3, k4⟩ := k4_facts hk
        obtain ⟨t, ht⟩ : ∃ t, M[k]? = some t := ⟨_, List.getElem?_eq_getElem (by rw [HM4.out.1]; exact hk)⟩
        have htok := HM4.out.2 t (List.mem_of_getElem? ht)
        obtain ⟨x1, x2, x3⟩ := t
        have htt : (turned M k)[k]? = some (x1, x2, x3) := by rw [turned_at, ht]; simp
        have hh := HS.out
        unfold wents at hh
        have q0 := hh.cell (k * 3 + 0) (mc_at _ _ _ htt 0 (by decide))
        obtain ⟨Aa, ca, rfl⟩ := hh.up2.slice
        obtain ⟨Av, cv, rfl⟩ := hh.up3.slice
        obtain ⟨r, r1, r2, r3, r4, r5, r6, r7, r8, r9, r10⟩ := turn_facts htok.1 htok.2.1 hk
        have f0 := hh.frozen (k * 3)
        have HT := Lib.hid (And.intro ht htok)
        have HKL := Lib.hid hk
        simp only [Nat.add_zero] at q0
        clear hh ht htok hk
        go_upto_region 10 with (fail)
        have h3 := HS.out
        unfold wents at h3
        have h4 := h3.set (k * 3) (.int .u16 (r * 4 + (k : Int)))
        rw [mc_set _ _ _ htt, ← r1, turned_next M k _ HT.out.1, r1] at h4
        obtain ⟨idn, hidn⟩ : ∃ idn, r * 4 + (k : Int) = idn := ⟨_, rfl⟩
        have hsn := sntOf_at HT.out.1
        rw [r1, hidn] at hsn
        rw [hidn] at h4 ⊢
        generalize wr.setCell ⟨b2, k * 3, none⟩ (.int .u16 idn) = w3 at *
        have hid0 : 0 ≤ idn ∧ idn < 65536 := by have := sntOf_id (M := M) k HKL.out; rw [hsn] at this; exact this
        have htt2 : (turned M (k + 1))[k]? = some (idn, x2, x3) := by
          rw [turned_at, HT.out.1]
          simp only [Option.map_some]
          rw [if_pos (Nat.lt_succ_self k), r1, hidn]
        have hS1 : w3.drew.cell? ⟨b2, k * 3, none⟩ = some (.int .u16 idn) ∧ w3.drew.cell? ⟨b2, k * 3 + 1, none⟩ = some (.int .u16 x2) ∧ w3.drew.cell? ⟨b2, k * 3 + 2, none⟩ = some (.int .u8 x3) :=
          ⟨h4.cell (k * 3 + 0) (mc_at _ _ _ htt2 0 (by decide)), h4.cell (k * 3 + 1) (mc_at _ _ _ htt2 1 (by decide)), h4.cell (k * 3 + 2) (mc_at _ _ _ htt2 2 (by decide))⟩
        have hmok : MsgOk idn x2 x3 := ⟨hid0.1, hid0.2, HT.out.2.2.2⟩
        obtain ⟨bs, hbs⟩ : ∃ bs, msgB x2 x3 = bs := ⟨_, rfl⟩
        rw [hbs] at hsn
        have H4 := Lib.hid (h4.drewN 1)
        have HMO := Lib.hid (And.intro hmok hbs)
        have HSN := Lib.hid (And.intro hsn (And.intro hid0 htt2))
        clear h3 h4 htt hidn hsn hid0 htt2 hmok hbs q0 f0 r1 r2 r3 r4 r5 r6 r7 r8 r9 r10 HS
        refine Mix.region 13 (fun w' => w'.cell? ⟨b2, k * 3, none⟩ = some (.int .u16 idn) ∧ w'.cell? ⟨b2, k * 3 + 1, none⟩ = some (.int .u16 x2) ∧ w'.cell? ⟨b2, k * 3 + 2, none⟩ = some (.int .u8 x3)) (by kernel_rfl) ?_
        simp only [List.size_toArray, List.length_cons, List.length_nil]
        refine Mix.at_take (i := 0) (v := ?_) rfl (by kernel_rfl) (by kernel_rfl) (by kernel_rfl) (by kernel_rfl) (by kernel_rfl) (by kernel_rfl) (by kernel_rfl) (fun _ _ _ h => h) (Or.inl ⟨by rfl, ?_⟩) hS1 ?_
        rotate_left
        · intro w hSw
          (try dsimp only at hSw)
          go_simp
          try (with_reducible rfl)
        simp only [Act.put, List.setIfInBounds_toArray, List.set_cons_zero, List.set_cons_succ]
        refine Mix.at_take (i := 1) (v := ?_) rfl (by kernel_rfl) (by kernel_rfl) (by kernel_rfl) (by kernel_rfl) (by kernel_rfl) (by kernel_rfl) (by kernel_rfl) (fun _ _ _ h => h) (Or.inl ⟨by rfl, ?_⟩) hS1 ?_
        rotate_left
        · intro w hSw
          (try dsimp only at hSw)
          go_simp
          try (with_reducible rfl)
        simp only [Act.put, List.setIfInBounds_toArray, List.set_cons_zero, List.set_cons_succ]
        refine Mix.at_take (i := 2) (v := ?_) rfl (by kernel_rfl) (by kernel_rfl) (by kernel_rfl) (by kernel_rfl) (by kernel_rfl) (by kernel_rfl) (by kernel_rfl) (fun _ _ _ h => h) (Or.inl ⟨by rfl, ?_⟩) hS1 ?_
        rotate_left
        · intro w hSw
          (try dsimp only at hSw)
          go_simp
          try (with_reducible rfl)
        simp only [Act.put, List.setIfInBounds_toArray, List.set_cons_zero, List.set_cons_succ]
        refine Mix.at_take (i := 3) (v := ?_) rfl (by kernel_rfl) (by kernel_rfl) (by kernel_rfl) (by kernel_rfl) (by kernel_rfl) (by kernel_rfl) (by kernel_rfl) (fun _ _ _ h => h) (Or.inl ⟨by rfl, ?_⟩) hS1 ?_
        rotate_left
        · intro w hSw
          (try dsimp only at hSw)
          go_simp
          try (with_reducible rfl)
        simp only [Act.put, List.setIfInBounds_toArray, List.set_cons_zero, List.set_cons_succ]
        refine Mix.at_take (i := 4) (v := ?_) rfl (by kernel_rfl) (by kernel_rfl) (by kernel_rfl) (by kernel_rfl) (by kernel_rfl) (by kernel_rfl) (by kernel_rfl) (fun _ _ _ h => h) (Or.inl ⟨by rfl, ?_⟩) hS1 ?_
        rotate_left
        · intro w hSw
          (try dsimp only at hSw)
          go_simp
          try (with_reducible rfl)
        simp only [Act.put, List.setIfInBounds_toArray, List.set_cons_zero, List.set_cons_succ]
        refine Mix.at_take (i := 5) (v := ?_) rfl (by kernel_rfl) (by kernel_rfl) (by kernel_rfl) (by kernel_rfl) (by kernel_rfl) (by kernel_rfl) (by kernel_rfl) (fun _ _ _ h => h) (Or.inl ⟨by rfl, ?_⟩) hS1 ?_
        rotate_left
        · intro w hSw
          (try dsimp only at hSw)
          go_simp
          try (with_reducible rfl)
        simp only [Act.put, List.setIfInBounds_toArray, List.set_cons_zero, List.set_cons_succ]
        refine Mix.at_take (i := 6) (v := ?_) rfl (by kernel_rfl) (by kernel_rfl) (by kernel_rfl) (by kernel_rfl) (by kernel_rfl) (by kernel_rfl) (by kernel_rfl) (fun _ _ _ h => h) (Or.inl ⟨by rfl, ?_⟩) hS1 ?_
        rotate_left
        · intro w hSw
          (try dsimp only at hSw)
          go_simp
          try (with_reducible rfl)
        simp only [Act.put, List.setIfInBounds_toArray, List.set_cons_zero, List.set_cons_succ]
        refine Mix.at_step (i := 7) rfl (by kernel_rfl) (by kernel_rfl) (by rfl) ?_
        unfold Oper.wp
        go_simp
        refine (mbytes_h w w.heap.size _ _ H4.out _ _ _ HMO.out.1 HMO.out.2).mono ?_
        rintro e' w4 ⟨Ab, cb, rfl, h5⟩
        have hS1 : w4.cell? ⟨b2, k * 3, none⟩ = some (.int .u16 idn) ∧ w4.cell? ⟨b2, k * 3 + 1, none⟩ = some (.int .u16 x2) ∧ w4.cell? ⟨b2, k * 3 + 2, none⟩ = some (.int .u8 x3) :=
          ⟨h5.up1.cell (k * 3 + 0) (mc_at _ _ _ HSN.out.2.2 0 (by decide)), h5.up1.cell (k * 3 + 1) (mc_at _ _ _ HSN.out.2.2 1 (by decide)), h5.up1.cell (k * 3 + 2) (mc_at _ _ _ HSN.out.2.2 2 (by decide))⟩
        refine ⟨hS1, ?_⟩
        have H5 := Lib.hid h5
        clear h5 H4
        try simp only [Act.put, List.setIfInBounds_toArray, List.set_cons_zero, List.set_cons_succ]
        by_cases he : errS bs = 0
        · refine Mix.at_step (i := 8) rfl (by kernel_rfl) (by kernel_rfl) (by rfl) ?_
          unfold Oper.wp
          go_simp
          refine (fsplit_h w w.heap.size _ _ H5.out idn _ bs HSN.out.2.1.1 HSN.out.2.1.2 H5.out.rd he).mono ?_
          rintro e' w5 ⟨vp, vs, rfl, hvl, h6⟩
          have h7 := Holds.permMid (F := P) [_] (M := pieces idn bs vs ++ [.rw (.slice Ab bs.length cb) 5 1 bs.length (nums .u8 bs), .st b2 (mc (turned M (k + 1))) 53, .st b7 (lefts (leftTo M k)) 56, .rw (.slice Aa A.length ca) 25 1 A.length (vals A), .rw (.slice Av A.length cv) 3 1 A.length (ofs A)]) (by simpa only [List.append_assoc, List.cons_append, List.nil_append] using h6) List.perm_append_comm
          simp only [List.append_assoc, List.cons_append, List.nil_append] at h7
          have h8 := Holds.sel [_, _, _, _, _, _] h7 [0, 2, 3, 4, 5] rfl
          simp only [pick, List.getElem?_cons_succ, List.getElem?_cons_zero, List.append_eq, List.cons_append, List.nil_append] at h8
          have hS1 : w5.cell? ⟨b2, k * 3, none⟩ = some (.int .u16 idn) ∧ w5.cell? ⟨b2, k * 3 + 1, none⟩ = some (.int .u16 x2) ∧ w5.cell? ⟨b2, k * 3 + 2, none⟩ = some (.int .u8 x3) :=
            ⟨h8.up1.cell (k * 3 + 0) (mc_at _ _ _ HSN.out.2.2 0 (by decide)), h8.up1.cell (k * 3 + 1) (mc_at _ _ _ HSN.out.2.2 1 (by decide)), h8.up1.cell (k * 3 + 2) (mc_at _ _ _ HSN.out.2.2 2 (by decide))⟩
          refine ⟨hS1, ?_⟩
          obtain ⟨Ap, cp, rfl⟩ := h8.slice
          obtain ⟨n, hn⟩ : ∃ n, cnt bs.length = n := ⟨_, rfl⟩
          rw [hn] at h8 hvl ⊢
          have q7 := h8.up2.cell k (left_at M k k HKL.out)
          have f7 := h8.up2.frozen k
          have hes : errS (sntOf M k).bs = 0 := by rw [HSN.out.1]; exact he
          have hns : (sntOf M k).n = n := by rw [HSN.out.1]; exact hn
          have h9 := h8.up2.set k (.int .i64 ((sntOf M k).n : Nat))
          rw [left_next M k HKL.out hes, hns] at h9
          have H9 := Lib.hid h9
          have HN := Lib.hid (And.intro hns (And.intro hvl (And.intro hes (cnt_max (errS_zero he).2))))
          rw [hn] at HN
          clear h6 h7 h8 h9 H5 he hn hvl hes hns
          try simp only [Act.put, List.setIfInBounds_toArray, List.set_cons_zero, List.set_cons_succ]
          refine Mix.at_take (i := 9) (v := ?_) rfl (by kernel_rfl) (by kernel_rfl) (by kernel_rfl) (by kernel_rfl) (by kernel_rfl) (by kernel_rfl) (by kernel_rfl) (fun _ _ _ h => h) (Or.inl ⟨by rfl, ?_⟩) hS1 ?_
          rotate_left
          · intro w hSw
            (try dsimp only at hSw)
            go_simp
            try (with_reducible rfl)
          try simp only [Act.put, List.setIfInBounds_toArray, List.set_cons_zero, List.set_cons_succ]
          refine Mix.at_take (i := 10) (v := ?_) rfl (by kernel_rfl) (by kernel_rfl) (by kernel_rfl) (by kernel_rfl) (by kernel_rfl) (by kernel_rfl) (by kernel_rfl) (fun _ _ _ h => h) (Or.inl ⟨by rfl, ?_⟩) hS1 ?_
          rotate_left
          · intro w hSw
            (try dsimp only at hSw)
            go_simp
            try (with_reducible rfl)
          try simp only [Act.put, List.setIfInBounds_toArray, List.set_cons_zero, List.set_cons_succ]
          refine Mix.at_take (i := 11) (v := ?_) rfl (by kernel_rfl) (by kernel_rfl) (by kernel_rfl) (by kernel_rfl) (by kernel_rfl) (by kernel_rfl) (by kernel_rfl) (fun _ _ _ h => h) (Or.inl ⟨by rfl, ?_⟩) hS1 ?_
          rotate_left
          · intro w hSw
            (try dsimp only at hSw)
            go_simp
            try (with_reducible rfl)
          try simp only [Act.put, List.setIfInBounds_toArray, List.set_cons_zero, List.set_cons_succ]
          refine Mix.at_take (i := 12) (v := ?_) rfl (by kernel_rfl) (by kernel_rfl) (by kernel_rfl) (by kernel_rfl) (by kernel_rfl) (by kernel_rfl) (by kernel_rfl) (fun _ _ _ h => h) (Or.inl ⟨by rfl, ?_⟩) hS1 ?_
          rotate_left
          · intro w hSw
            (try dsimp only at hSw)
            go_simp
            try (with_reducible rfl)
          try simp only [Act.put, List.setIfInBounds_toArray, List.set_cons_zero, List.set_cons_succ]
          refine Mix.at_tail _ rfl rfl (by kernel_rfl) ?_
          simp only [List.drop_succ_cons, List.drop_zero]
          go_wp2_with fail
          obtain ⟨gp, cp', he', _⟩ := H9.out.up1.row (n := n) (by have := HN.out; have h1 := Snt.n14 (x := sntOf M k) ⟨by rw [HSN.out.1]; exact HSN.out.2.1.1, by rw [HSN.out.1]; exact HSN.out.2.1.2, this.2.2.1⟩; omega)
          simp only [Value.slice.injEq, true_and] at he'
          obtain ⟨rfl, rfl⟩ := he'
          have h9 := Holds.sel [_, _, _, _, _] H9.out [1, 2, 0, 3, 4] rfl
          simp only [pick, List.getElem?_cons_succ, List.getElem?_cons_zero, List.append_eq, List.cons_append, List.nil_append] at h9
          have H10 := Lib.hid h9
          have hal : A.length ≤ 56 := by
            have h1 := congrArg List.length HA.out.1
            rw [List.length_map] at h1
            rw [h1]
            exact Nat.le_trans (remTo_len M k) (by have := HKL.out; omega)
          have HAL := Lib.hid hal
          obtain ⟨i0, hi, hz0, hz1, hz2⟩ := info_parts info_sl
          obtain ⟨j0, hj, hy0, hy1, hy2⟩ := info_parts info_int
          generalize w5.setCell ⟨b7, k, none⟩ (.int .i64 (n : Int)) = w6 at *
          clear h9 hal q7 f7 H9 hS1
          go_loopw [5, 6, 11] (fun va vo jv wr => ∃ (j : Nat), Hid (j ≤ n) ∧ jv = .int .i64 j ∧ Hid (Holds w w.heap.size wr (.rw (.slice (some ⟨gp, 0, none⟩) n cp) 25 1 n vs :: wents b2 b7 M (k + 1) (leftTo M (k + 1)) va vo (A ++ pts k vs j) (pieces idn bs vs ++ P)))) (fun _ _ jv _ => n - (intOf jv).toNat)
          case atStart => exact ⟨0, Lib.hid (Nat.zero_le _), rfl, Lib.hid (by unfold wents; rw [show pts k vs 0 = [] from rfl, List.append_nil]; exact H10.out)⟩
          case round =>
            obtain ⟨j, HJ, rfl, HX⟩ := hrel
            clear H10
            by_cases hjn : j < n
            · have h14 := HN.out.2.2.2
              obtain ⟨j1, j2, j3, j4⟩ := fi_facts hjn (Nat.le_trans h14 (by decide))
              have hx := HX.out
              unfold wents at hx
              obtain ⟨v, hv⟩ : ∃ v, vs[j]? = some v := ⟨_, List.getElem?_eq_getElem (by rw [HN.out.2.1]; exact hjn)⟩
              obtain ⟨Aj, cj, rfl⟩ := mem_slice hx (List.mem_cons_of_mem _ (List.mem_cons_of_mem _ (List.mem_cons_of_mem _ (List.mem_cons_of_mem _ (List.mem_cons_of_mem _ (List.mem_append_left _ (pieces_at (id := idn) (bs := bs) hv)))))))
              obtain ⟨nj, hnj⟩ : ∃ nj, (part idn bs j).length = nj := ⟨_, rfl⟩
              rw [hnj] at hv
              have e4 := (hx.rcell j (by rw [Nat.mul_one]; exact hjn)).trans hv
              have hlen : (A ++ pts k vs j).length = A.length + j := by rw [List.length_append, pts_len (by rw [HN.out.2.1]; exact Nat.le_of_lt hjn)]
              have hfw := a_few HAL.out (Nat.le_trans (Nat.le_of_lt hjn) h14) hlen
              obtain ⟨AA, hAA⟩ : ∃ AA, A ++ pts k vs j = AA := ⟨_, rfl⟩
              rw [hAA] at hx hfw
              have HAA := Lib.hid hAA
              clear hAA hlen
              have hy := Holds.sel [_, _, _, _, _] (hx.alloc' (.cells #[.slice Aj nj cj] 25)) [3, 0, 1, 2, 4] rfl
              simp only [pick, List.getElem?_cons_succ, List.getElem?_cons_zero, List.append_eq, List.cons_append, List.nil_append] at hy
              have HY := Lib.hid hy
              have HF := Lib.hid hfw
              have HV := Lib.hid hv
              have HL2 := Lib.hid hjn
              clear hx hv hnj hfw hy h14 hjn
              go_wp2_with (at_builtin; refine wpList_append_one rfl _ _ _ rfl 25 i0 _ 1 24 Try.underlying27 hi hz0 hz1 hz2 rfl (by decide) rfl HY.out [.slice Aj nj cj] rfl rfl (one_new _ _ _) (one_sl _ _ _) HF.out (by decide) ?_)
              intro v7 w7 h7
              have hy := Holds.sel [_, _, _, _, _] (h7.alloc' (.cells #[.int .i64 (k : Int)] 3)) [4, 0, 1, 2, 3] rfl
              simp only [pick, List.getElem?_cons_succ, List.getElem?_cons_zero, List.append_eq, List.cons_append, List.nil_append] at hy
              have HY2 := Lib.hid hy
              clear h7 hy HY e4
              go_wp2_with (at_builtin; refine wpList_append_one rfl _ _ _ rfl 3 j0 _ 1 8 Try.underlying55 hj hy0 hy1 hy2 rfl (by decide) rfl HY2.out [.int .i64 (k : Int)] rfl rfl (one_new _ _ _) (one_int _ _) HF.out (by decide) ?_)
              intro v8 w8 h8
              have H8 := Lib.hid h8
              clear h8 HY2
              go_wp2_with fail
              refine ⟨⟨j + 1, Lib.hid HL2.out, by go_num, Lib.hid ?_⟩, fi_down HL2.out⟩
              have hz := Holds.sel [_, _, _, _, _] H8.out [2, 3, 4, 1, 0] rfl
              simp only [pick, List.getElem?_cons_succ, List.getElem?_cons_zero, List.append_eq, List.cons_append, List.nil_append] at hz
              rw [pts_next HV.out, ← List.append_assoc, HAA.out]
              unfold wents
              rw [show vals (AA ++ [(Value.slice Aj nj cj, k, j)]) = vals AA ++ [.slice Aj nj cj] by simp [vals], show ofs (AA ++ [(Value.slice Aj nj cj, k, j)]) = ofs AA ++ [.int .i64 (k : Int)] by simp [ofs], List.length_append]
              exact hz
            · obtain rfl : j = n := Nat.le_antisymm HJ.out (Nat.le_of_not_lt hjn)
              have k9 : ¬ (j : Int) < (j : Int) := Int.lt_irrefl _
              clear hjn
              go_wp2_with fail
              refine ⟨⟨k + 1, A ++ pts k vs vs.length, pieces idn bs vs ++ P, Lib.hid HKL.out, by go_num, Lib.hid ⟨?_, ?_⟩, Lib.hid ?_⟩, by have := HKL.out; simp [intOf]; omega⟩
              · rw [List.map_append, HA.out.1, pts_map, rem_next, if_pos HN.out.2.2.1, HN.out.1, HN.out.2.1]
              · intro a ha
                rcases List.mem_append.1 ha with ha | ha
                · exact List.mem_append_right _ (HA.out.2 a ha)
                · refine List.mem_append_left _ ?_
                  obtain ⟨i', hi'⟩ := List.mem_iff_getElem?.1 ha
                  unfold pts at hi'
                  rw [List.take_length, List.getElem?_mapIdx, Option.map_eq_some_iff] at hi'
                  obtain ⟨v', hv', rfl⟩ := hi'
                  have := pieces_at (id := idn) (bs := bs) hv'
                  unfold aent
                  rw [HSN.out.1]
                  exact this
              · rw [HN.out.2.1]
                exact HX.out.tail
        · have te := err_vals he
          refine Mix.at_step (i := 8) rfl (by kernel_rfl) (by kernel_rfl) (by rfl) ?_
          unfold Oper.wp
          go_simp
          refine (fsplit_n w w.heap.size _ _ H5.out idn _ bs HSN.out.2.1.1 HSN.out.2.1.2 H5.out.rd he).mono ?_
          rintro e' w5 ⟨Ap, np, cp, rfl, h6⟩
          have h8 := h6.tail
          have hS1 : w5.cell? ⟨b2, k * 3, none⟩ = some (.int .u16 idn) ∧ w5.cell? ⟨b2, k * 3 + 1, none⟩ = some (.int .u16 x2) ∧ w5.cell? ⟨b2, k * 3 + 2, none⟩ = some (.int .u8 x3) := ⟨h8.cell (k * 3 + 0) (mc_at _ _ _ HSN.out.2.2 0 (by decide)), h8.cell (k * 3 + 1) (mc_at _ _ _ HSN.out.2.2 1 (by decide)), h8.cell (k * 3 + 2) (mc_at _ _ _ HSN.out.2.2 2 (by decide))⟩
          refine ⟨hS1, ?_⟩
          have hes : errS (sntOf M k).bs ≠ 0 := by rw [HSN.out.1]; exact he
          have H8 := Lib.hid h8
          have HES := Lib.hid hes
          obtain ⟨er, her⟩ : ∃ er, errS bs = er := ⟨_, rfl⟩
          rw [her] at te ⊢
          clear h6 h8 hes H5 he her
          try simp only [Act.put, List.setIfInBounds_toArray, List.set_cons_zero, List.set_cons_succ]
          refine Mix.at_take (i := 9) (v := ?_) rfl (by kernel_rfl) (by kernel_rfl) (by kernel_rfl) (by kernel_rfl) (by kernel_rfl) (by kernel_rfl) (by kernel_rfl) (fun _ _ _ h => h) (Or.inl ⟨by rfl, ?_⟩) hS1 ?_
          rotate_left
          · intro w hSw
            (try dsimp only at hSw)
            go_simp
            try (with_reducible rfl)
          try simp only [Act.put, List.setIfInBounds_toArray, List.set_cons_zero, List.set_cons_succ]
          refine Mix.at_take (i := 10) (v := ?_) rfl (by kernel_rfl) (by kernel_rfl) (by kernel_rfl) (by kernel_rfl) (by kernel_rfl) (by kernel_rfl) (by kernel_rfl) (fun _ _ _ h => h) (Or.inl ⟨by rfl, ?_⟩) hS1 ?_
          rotate_left
          · intro w hSw
            (try dsimp only at hSw)
            go_simp
            try (with_reducible rfl)
          try simp only [Act.put, List.setIfInBounds_toArray, List.set_cons_zero, List.set_cons_succ]
          refine Mix.at_take (i := 11) (v := ?_) rfl (by kernel_rfl) (by kernel_rfl) (by kernel_rfl) (by kernel_rfl) (by kernel_rfl) (by kernel_rfl) (by kernel_rfl) (fun _ _ _ h => h) (Or.inl ⟨by rfl, ?_⟩) hS1 ?_
          rotate_left
          · intro w hSw
            (try dsimp only at hSw)
            go_simp
            try (with_reducible rfl)
          try simp only [Act.put, List.setIfInBounds_toArray, List.set_cons_zero, List.set_cons_succ]
          refine Mix.at_take (i := 12) (v := ?_) rfl (by kernel_rfl) (by kernel_rfl) (by kernel_rfl) (by kernel_rfl) (by kernel_rfl) (by kernel_rfl) (by kernel_rfl) (fun _ _ _ h => h) (Or.inl ⟨by rfl, ?_⟩) hS1 ?_
          rotate_left
          · intro w hSw
            (try dsimp only at hSw)
            go_simp
            try (with_reducible rfl)
          try simp only [Act.put, List.setIfInBounds_toArray, List.set_cons_zero, List.set_cons_succ]
          refine Mix.at_tail _ rfl rfl (by kernel_rfl) ?_
          simp only [List.drop_succ_cons, List.drop_zero]
          go_wp2_with fail
          refine ⟨⟨k + 1, A, P, Lib.hid HKL.out, by go_num, Lib.hid ⟨?_, HA.out.2⟩, Lib.hid ?_⟩, by have := HKL.out; simp [intOf]; omega⟩
          · rw [rem_next, if_neg HES.out, List.append_nil]
            exact HA.out.1
          · rw [left_skip M k HES.out]
            exact H8.out
      · obtain rfl : k = 4 := Nat.le_antisymm HK.out (Nat.le_of_not_lt hk)
        clear hk
        rw [show ((4 : Nat) : Int) = 4 from rfl]
        go_wp2_with fail
        have h5 := HS.out.alloc [.slice none 0 0] 41
        obtain ⟨a, ha⟩ : ∃ a, wr.heap.size = a := ⟨_, rfl⟩
        rw [ha] at h5 ⊢
        change Holds w w.heap.size (wr.alloc (.cells #[.slice none 0 0] 41)) _ at h5
        have h6 := Asm.start h5
        have hl4 : A.length ≤ 56 := by
          have h1 := congrArg List.length HA.out.1
          rw [List.length_map] at h1
          rw [h1]
          exact remTo_len M 4
        rw [leftR_start, ← HA.out.1] at h6
        have H6 := Lib.hid h6
        have HW := Lib.hid (And.intro hl4 (HA.out.1 ▸ WInv.start M))
        have HP := Lib.hid HA.out.2
        generalize wr.alloc (.cells #[.slice none 0 0] 41) = w6 at *
        clear h5 h6 ha hl4 HS
        go_loopw [5, 6, 13] (fun va vo nv wr => ∃ (N : Nat) (A : List Pt) (T : List (Nat × List Nat)), Hid (N + A.length ≤ 56) ∧ nv = .int .i64 N ∧ (∃ A' c', va = .slice A' A.length c') ∧ Hid (WInv (sntOf M) (A.map (·.2)) T ∧ ∀ x ∈ A, aent M x ∈ P) ∧
          Hid (Asm w wr a (stW (sntOf M) T) (wents b2 b7 M 4 (leftR (A.map (·.2))) va vo A P))) (fun va _ _ _ => lenV va)
        case atStart =>
          refine ⟨0, A, [], Lib.hid (by simpa using HW.out.1), rfl, ?_, Lib.hid ⟨HW.out.2, HP.out⟩, H6⟩
          obtain ⟨G, hG, _⟩ := H6.out.split
          unfold wents at hG
          simp only [List.cons_append] at hG
          exact hG.up2.slice
        case round =>
          clear H6 HW HP HA HK
          obtain ⟨N, A, T, HN, rfl, ⟨Aa, ca, rfl⟩, HI, HS⟩ := hrel
          obtain ⟨G, hG, hback⟩ := HS.out.split
          unfold wents at hG
          simp only [List.cons_append] at hG
          obtain ⟨Av, cv, rfl⟩ := hG.up3.slice
          by_cases hn0 : 0 < A.length
          · obtain ⟨y, hy⟩ : ∃ y, A.length = y + 1 := ⟨A.length - 1, by omega⟩
            obtain ⟨n, hn⟩ : ∃ n, A.length = n := ⟨_, rfl⟩
            have hn56 : n ≤ 1000 := by rw [← hn]; have := HN.out; omega
            rw [hn] at hy hn0
            obtain ⟨y1, y2, y3, y4, y5, y6, y7, y8, y9, y10, y11⟩ := len_facts hy hn56
            rw [hn] at hG HS ⊢
            obtain ⟨ga, ca', he, _⟩ := hG.up2.row hn0
            simp only [Value.slice.injEq, true_and] at he
            obtain ⟨rfl, rfl⟩ := he
            obtain ⟨gv, cv', he, _⟩ := hG.up3.row hn0
            simp only [Value.slice.injEq, true_and] at he
            obtain ⟨rfl, rfl⟩ := he
            have HG := Lib.hid hG
            have HLEN := Lib.hid (And.intro hn (And.intro hy hn0))
            have HBW := Lib.hid (HS.out.below)
            have HMS := Lib.hid hn56
            have HYF := Lib.hid (And.intro y2 (And.intro y3 (And.intro y4 (And.intro y5 (And.intro y6 (And.intro y7 y8))))))
            clear hG hback hn hy hn0 hn56 y2 y3 y4 y5 y6 y7 y8 y11
            go_upto_if 88 with (fail)
            go_cut [14, 88] from 89 to 96 (fun t14 _ wx => ∃ kk : Nat, Hid (kk < n) ∧ t14 = .int .i64 kk ∧ wr = wx)
            case first =>
              by_cases hN : N < ord.length
              · have tN : decide ((N : Int) < (ord.length : Int)) = true := dt (Int.ofNat_lt.2 hN)
                obtain ⟨o, ho⟩ : ∃ o, ord[N]? = some o := ⟨_, List.getElem?_eq_getElem hN⟩
                obtain ⟨bo, oo, rfl, hbo, hco⟩ := HORD.out.1 N o ho
                have hor := HORD.out.2.1 o (List.mem_of_getElem? ho)
                obtain ⟨kk, o1, o2, o3, o4, o5, o6⟩ := ord_facts hor.1 hor.2 HLEN.out.2.2 HMS.out
                have eo := (HBW.out.cell (p := ⟨bo, oo + N, none⟩) hbo).trans hco
                have n0 : (0 : Int) ≤ (N : Int) := Int.natCast_nonneg _
                have n1 : (N : Int) < (ord.length : Int) := Int.ofNat_lt.2 hN
                have HKK := Lib.hid o1
                clear ho hbo hco hor o1
                go_wp2_with fail
                go_meet
                exact ⟨kk, HKK, rfl, rfl⟩
              · have tN : decide ((N : Int) < (ord.length : Int)) = false := df (fun h => hN (Int.ofNat_lt.1 h))
                clear y1 y9 y10
                go_wp2_with fail
                go_meet
                exact ⟨0, Lib.hid HLEN.out.2.2, rfl, rfl⟩
            case rest =>
              obtain ⟨kk, HKK, rfl, rfl⟩ := hcut
              clear y1 y9 y10
              obtain ⟨⟨v, m, j⟩, hak⟩ : ∃ x, A[kk]? = some x := ⟨_, List.getElem?_eq_getElem (by rw [HLEN.out.1]; exact HKK.out)⟩
              obtain ⟨⟨vz, mz, jz⟩, haz⟩ : ∃ x, A[A.length - 1]? = some x := ⟨_, List.getElem?_eq_getElem (whole_last HLEN.out.1 HLEN.out.2.1)⟩
              have hvm := HI.out.2 _ (List.mem_of_getElem? hak)
              have hzm := HI.out.2 _ (List.mem_of_getElem? haz)
              have hyc : (y : Int) ≤ (ca : Int) ∧ (y : Int) ≤ (cv : Int) := by
                obtain ⟨_, _, e1, h1, _⟩ := HG.out.up2.row HLEN.out.2.2
                obtain ⟨_, _, e2, h2, _⟩ := HG.out.up3.row HLEN.out.2.2
                simp only [Value.slice.injEq, true_and] at e1 e2
                have := HLEN.out.2.1
                omega
              have HCAP := Lib.hid hyc
              unfold aent at hvm hzm
              dsimp only at hvm hzm
              obtain ⟨p, hp⟩ : ∃ p, part (sntOf M m).id (sntOf M m).bs j = p := ⟨_, rfl⟩
              obtain ⟨pz, hpz⟩ : ∃ pz, part (sntOf M mz).id (sntOf M mz).bs jz = pz := ⟨_, rfl⟩
              rw [hp] at hvm
              rw [hpz] at hzm
              obtain ⟨Aj, cj, rfl⟩ := mem_slice HG.out (List.mem_cons_of_mem _ (List.mem_cons_of_mem _ (List.mem_cons_of_mem _ (List.mem_cons_of_mem _ (List.mem_append_left _ hvm)))))
              obtain ⟨Az, cz, rfl⟩ := mem_slice HG.out (List.mem_cons_of_mem _ (List.mem_cons_of_mem _ (List.mem_cons_of_mem _ (List.mem_cons_of_mem _ (List.mem_append_left _ hzm)))))
              have hpm := (swapOut_perm hak haz).map (·.2)
              simp only [List.map_cons] at hpm
              obtain ⟨A2, hA2⟩ : ∃ A2, swapOut A kk (.slice Az pz.length cz, mz, jz) = A2 := ⟨_, rfl⟩
              have hlA2 : A2.length = y := by rw [← hA2, swapOut_len, HLEN.out.1, HLEN.out.2.1, Nat.add_sub_cancel]
              have hvA2 : ((vals A).set kk (.slice Az pz.length cz)).take (y * 1) = vals A2 := by
                rw [← hA2]
                unfold vals
                rw [swapOut_map]
                unfold swapOut
                rw [List.length_map, HLEN.out.1, HLEN.out.2.1, Nat.mul_one, Nat.add_sub_cancel]
              have hoA2 : ((ofs A).set kk (.int .i64 (mz : Int))).take (y * 1) = ofs A2 := by
                rw [← hA2]
                unfold ofs
                rw [swapOut_map]
                unfold swapOut
                rw [List.length_map, HLEN.out.1, HLEN.out.2.1, Nat.mul_one, Nat.add_sub_cancel]
              have hsub : ∀ x ∈ A2, aent M x ∈ P := fun x hx => HI.out.2 x ((swapOut_perm hak haz).mem_iff.2 (by rw [hA2]; exact List.mem_cons_of_mem _ hx))
              rw [hA2] at hpm
              obtain ⟨T', hI', hfd⟩ := HI.out.1.step hpm sntOf_apart
              obtain ⟨hm4, hmok, hjn⟩ := HI.out.1.rem (m, j) (hpm.mem_iff.2 (by simp))
              dsimp only at hm4 hmok hjn
              have hcc : cntR (A.map (·.2)) m = cntR (A2.map (·.2)) m + 1 := by rw [cntR_perm hpm m, cntR_cons, if_pos rfl]
              have hcb : cntR (A.map (·.2)) m ≤ 1000 := Nat.le_trans List.countP_le_length (by rw [List.length_map, HLEN.out.1]; exact HMS.out)
              have hls := leftR_set hm4 hpm
              have hla := leftR_at (A.map (·.2)) m hm4
              obtain ⟨c0, hc0⟩ : ∃ c0, cntR (A.map (·.2)) m = c0 := ⟨_, rfl⟩
              obtain ⟨z, hz⟩ : ∃ z, cntR (A2.map (·.2)) m = z := ⟨_, rfl⟩
              rw [hc0] at hcc hcb hla
              rw [hz] at hcc hfd hls
              rw [hp] at hfd
              obtain ⟨g1, g2, g3, g4, g5, g6, g7, g8, g9, g10, g11⟩ := len_facts hcc hcb
              obtain ⟨⟨x1, x2, x3⟩, hM⟩ : ∃ t, M[m]? = some t := ⟨_, List.getElem?_eq_getElem (by rw [HM4.out.1]; exact hm4)⟩
              have hMm := HM4.out.2 _ (List.mem_of_getElem? hM)
              have hsn := sntOf_at hM
              have hmt : (turned M 4)[m]? = some ((sntOf M m).id, x2, x3) := by
                rw [turned_at, hM]
                simp only [Option.map_some]
                rw [if_pos hm4, hsn]
              have hbs : msgB x2 x3 = (sntOf M m).bs := by rw [hsn]
              have hmo : MsgOk (sntOf M m).id x2 x3 := ⟨hmok.i0, hmok.i1, hMm.2.2⟩
              have hbp : bytesOk p := by rw [← hp, ← hbs]; exact part_bytes' (msgB_ok x2 x3)
              obtain ⟨idm, hidm⟩ : ∃ idm, (sntOf M m).id = idm := ⟨_, rfl⟩
              obtain ⟨bs, hbs2⟩ : ∃ bs, (sntOf M m).bs = bs := ⟨_, rfl⟩
              rw [hidm] at hmt hmo
              rw [hbs2] at hbs hfd
              have vak : (vals A)[kk]? = some (.slice Aj p.length cj) := by unfold vals; rw [List.getElem?_map, hak]; rfl
              have vaz : (vals A)[y]? = some (.slice Az pz.length cz) := by unfold vals; rw [List.getElem?_map, whole_y HLEN.out.1 HLEN.out.2.1, haz]; rfl
              have ofk : (ofs A)[kk]? = some (.int .i64 (m : Int)) := by unfold ofs; rw [List.getElem?_map, hak]; rfl
              have ofz : (ofs A)[y]? = some (.int .i64 (mz : Int)) := by unfold ofs; rw [List.getElem?_map, whole_y HLEN.out.1 HLEN.out.2.1, haz]; rfl
              have HZV := Lib.hid (And.intro vaz (And.intro vak (And.intro ofz ofk)))
              have HA2 := Lib.hid (And.intro hlA2 (And.intro hvA2 hoA2))
              have HI2 : Hid (WInv (sntOf M) (A2.map (·.2)) T' ∧ ∀ x ∈ A2, aent M x ∈ P) := Lib.hid ⟨hI', hsub⟩
              have HLS := Lib.hid (And.intro hls (And.intro hla hm4))
              have HMT := Lib.hid (And.intro hmt (And.intro hmo hbs))
              have ek := (HG.out.up2.rcell kk (by rw [Nat.mul_one]; exact HKK.out)).trans vak
              have ev := (HG.out.up3.rcell kk (by rw [Nat.mul_one]; exact HKK.out)).trans ofk
              have kk0 : (0 : Int) ≤ (kk : Int) := Int.natCast_nonneg _
              have kk1 : (kk : Int) < (n : Int) := Int.ofNat_lt.2 HKK.out
              have hcl := afeed2 w wr a _ _ Aj cj p HS.out (fun w' h => Rd.of_own (h.each _ (List.mem_cons_of_mem _ (List.mem_cons_of_mem _ (List.mem_cons_of_mem _ (List.mem_cons_of_mem _ hvm)))))) hbp
              rw [hfd] at hcl
              obtain ⟨m0, m1, _, _, _⟩ := k4_facts hm4
              have HVM := Lib.hid hvm
              clear hak haz hvm hzm hyc hp hpz hpm hA2 hlA2 hvA2 hoA2 hsub hI' hfd hm4 hmok hjn hcc hcb hls hla hc0 hz hM hMm hsn hmt hbs hmo hbp hidm hbs2 vak vaz ofk ofz g1 g5 g7 g8 g9 g10 g11
              by_cases hz0 : z = 0
              · rw [if_pos hz0] at hcl
                have tz : ((z : Int) == 0) = true := by rw [hz0]; rfl
                have HCL := Lib.hid hcl
                clear hcl hz0
                go_wp2_with fail
                refine HCL.out.mono ?_
                rintro e' w9 ⟨A9, c9, rfl, hs9⟩
                obtain ⟨G2, hG2, hback2⟩ := hs9.split
                unfold wents at hG2
                simp only [List.cons_append, Option.getD_some] at hG2
                rw [HLEN.out.1] at hG2
                have q27 := hG2.up2.cell m HLS.out.2.1
                have f27 := hG2.up2.frozen m
                have h10 := hG2.up2.set m (.int .i64 (z : Int))
                rw [HLS.out.1] at h10
                have H10 := Lib.hid h10
                have HBK := Lib.hid (fun w' F' h => hback2 w' F' h)
                clear hs9 hG2 hback2 h10 HCL ek ev
                go_upto_region 28 with (fail)
                generalize w9.setCell ⟨b7, m, none⟩ (.int .i64 (z : Int)) = w10 at *
                have b0 := H10.out.up2.cell (m * 3 + 0) (mc_at _ _ _ HMT.out.1 0 (by decide))
                have b1 := H10.out.up2.cell (m * 3 + 1) (mc_at _ _ _ HMT.out.1 1 (by decide))
                have b2' := H10.out.up2.cell (m * 3 + 2) (mc_at _ _ _ HMT.out.1 2 (by decide))
                have q28 := H10.out.cell m (by rw [← HLS.out.1, List.getElem?_set_self]; simp [lefts, leftR, HLS.out.2.2])
                have hmb := mbytes w10 idm x2 x3 HMT.out.2.1.2.2.1 HMT.out.2.1.2.2.2.1 HMT.out.2.1.2.2.2.2.1 HMT.out.2.1.2.2.2.2.2
                rw [HMT.out.2.2] at hmb
                have HMB := Lib.hid hmb
                simp only [Nat.add_zero] at b0
                clear hmb q27 f27
                go_wp2_with fail
                refine HMB.out.mono ?_
                rintro e' w11 ⟨vb, rfl, h11⟩
                have h12 := Holds.join H10.out h11
                obtain ⟨Ab, cb, rfl⟩ := h11.slice
                simp only [List.cons_append, List.nil_append] at h12
                have hsm := Wr.same w11 (.slice A9 bs.length c9) (.slice Ab bs.length cb) bs bs h12.up2.rd h12.rd
                rw [decide_eq_true rfl] at hsm
                have HSM := Lib.hid hsm
                have H12 := Lib.hid h12
                clear h11 h12 hsm HMB b0 b1 b2' q28
                go_wp2_with fail
                refine HSM.out.mono ?_
                rintro e' wN ⟨rfl, hd⟩
                have hxx := Holds.sel [_, _, _, _, _, _] (Holds.belowed H12.out hd.below) [3, 1, 4, 5] rfl
                simp only [pick, List.getElem?_cons_succ, List.getElem?_cons_zero, List.append_eq, List.cons_append, List.nil_append] at hxx
                have HX := Lib.hid hxx
                clear hxx hd HSM H12 H10
                obtain ⟨z1, z2, z3, z4, z5, z6, z7⟩ := HYF.out
                obtain ⟨n0, n1, n2, n3⟩ := fi_facts (k := N) (n := 1000) (whole_n HN.out) (Nat.le_refl _)
                have kk0 : (0 : Int) ≤ (kk : Int) := Int.natCast_nonneg _
                have kk1 : (kk : Int) < (n : Int) := Int.ofNat_lt.2 HKK.out
                have yc1 := HCAP.out.1
                have yc2 := HCAP.out.2
                have ez := (HX.out.up2.rcell y (by rw [Nat.mul_one, HLEN.out.2.1]; exact Nat.lt_succ_self y)).trans HZV.out.1
                have ek := (HX.out.up2.rcell kk (by rw [Nat.mul_one]; exact HKK.out)).trans HZV.out.2.1
                have fk := HX.out.up2.rfrozen kk
                go_upto_region 31 with (fail)
                have hx2 := HX.out.up2.rset kk (.slice Az pz.length cz)
                generalize wN.setCell ⟨ga, kk, none⟩ (.slice Az pz.length cz) = wM at *
                have HX2 := Lib.hid hx2
                clear hx2 HX ez ek fk
                have ez := (HX2.out.up3.rcell y (by rw [Nat.mul_one, HLEN.out.2.1]; exact Nat.lt_succ_self y)).trans HZV.out.2.2.1
                have ek := (HX2.out.up3.rcell kk (by rw [Nat.mul_one]; exact HKK.out)).trans HZV.out.2.2.2
                have fk := HX2.out.up3.rfrozen kk
                go_upto_region 32 with (fail)
                have hx3 := HX2.out.up3.rset kk (.int .i64 (mz : Int))
                generalize wM.setCell ⟨gv, kk, none⟩ (.int .i64 (mz : Int)) = wE at *
                have hx4 := (hx3.shrink y (whole_le HLEN.out.2.1)).up1
                have hx5 := hx4.shrink y (whole_le HLEN.out.2.1)
                have hx6 := Holds.sel [_, _, _, _] hx5 [2, 3, 0, 1] rfl
                simp only [pick, List.getElem?_cons_succ, List.getElem?_cons_zero, List.append_eq, List.cons_append, List.nil_append] at hx6
                rw [HA2.out.2.1, HA2.out.2.2] at hx6
                have HX6 := Lib.hid hx6
                clear hx3 hx4 hx5 hx6 HX2 ez ek fk n0 n1 kk0 kk1 g2 g3 g4 g6 m0 m1 tz
                have yb : decide ((y : Int) ≤ (ca : Int)) = true := dt yc1
                have yb2 : y ≤ ca := Int.ofNat_le.1 yc1
                have yd : decide ((y : Int) ≤ (cv : Int)) = true := dt yc2
                have yd2 : y ≤ cv := Int.ofNat_le.1 yc2
                have hsa := fun w => cut_sl w ga n yb2
                have hsb := fun w => cut_int w gv n yd2
                go_wp2_with fail
                refine ⟨⟨N + 1, A2, T', Lib.hid ?_, by go_num, ⟨_, _, by rw [HA2.out.1]⟩, HI2, Lib.hid (HBK.out _ _ ?_)⟩, ?_⟩
                · rw [HA2.out.1]
                  exact whole_next HN.out HLEN.out.1 HLEN.out.2.1
                · unfold wents
                  simp only [List.cons_append]
                  rw [HA2.out.1]
                  exact HX6.out
                · exact whole_lt HLEN.out.2.1
              · rw [if_neg hz0] at hcl
                have tz : ((z : Int) == 0) = false := beq_eq_false_iff_ne.2 (fun h => hz0 (Int.ofNat.inj h))
                have HCL := Lib.hid hcl
                clear hcl hz0
                go_wp2_with fail
                refine HCL.out.mono ?_
                rintro e' w9 ⟨A9, c9, rfl, hs9⟩
                obtain ⟨G2, hG2, hback2⟩ := hs9.split
                unfold wents at hG2
                simp only [List.cons_append, Option.getD_none] at hG2
                rw [HLEN.out.1] at hG2
                have q27 := hG2.up2.cell m HLS.out.2.1
                have f27 := hG2.up2.frozen m
                have h10 := hG2.up2.set m (.int .i64 (z : Int))
                rw [HLS.out.1] at h10
                have H10 := Lib.hid h10
                have HBK := Lib.hid (fun w' F' h => hback2 w' F' h)
                clear hs9 hG2 hback2 h10 HCL ek ev
                go_upto_region 28 with (fail)
                generalize w9.setCell ⟨b7, m, none⟩ (.int .i64 (z : Int)) = wN at *
                have q28 := H10.out.cell m (by rw [← HLS.out.1, List.getElem?_set_self]; simp [lefts, leftR, HLS.out.2.2])
                have hxx := Holds.sel [_, _, _, _, _] H10.out [2, 0, 3, 4] rfl
                simp only [pick, List.getElem?_cons_succ, List.getElem?_cons_zero, List.append_eq, List.cons_append, List.nil_append] at hxx
                have HX := Lib.hid hxx
                clear hxx H10 q27 f27
                obtain ⟨z1, z2, z3, z4, z5, z6, z7⟩ := HYF.out
                obtain ⟨n0, n1, n2, n3⟩ := fi_facts (k := N) (n := 1000) (whole_n HN.out) (Nat.le_refl _)
                have kk0 : (0 : Int) ≤ (kk : Int) := Int.natCast_nonneg _
                have kk1 : (kk : Int) < (n : Int) := Int.ofNat_lt.2 HKK.out
                have yc1 := HCAP.out.1
                have yc2 := HCAP.out.2
                have ez := (HX.out.up2.rcell y (by rw [Nat.mul_one, HLEN.out.2.1]; exact Nat.lt_succ_self y)).trans HZV.out.1
                have ek := (HX.out.up2.rcell kk (by rw [Nat.mul_one]; exact HKK.out)).trans HZV.out.2.1
                have fk := HX.out.up2.rfrozen kk
                go_upto_region 31 with (fail)
                have hx2 := HX.out.up2.rset kk (.slice Az pz.length cz)
                generalize wN.setCell ⟨ga, kk, none⟩ (.slice Az pz.length cz) = wM at *
                have HX2 := Lib.hid hx2
                clear hx2 HX ez ek fk
                have ez := (HX2.out.up3.rcell y (by rw [Nat.mul_one, HLEN.out.2.1]; exact Nat.lt_succ_self y)).trans HZV.out.2.2.1
                have ek := (HX2.out.up3.rcell kk (by rw [Nat.mul_one]; exact HKK.out)).trans HZV.out.2.2.2
                have fk := HX2.out.up3.rfrozen kk
                go_upto_region 32 with (fail)
                have hx3 := HX2.out.up3.rset kk (.int .i64 (mz : Int))
                generalize wM.setCell ⟨gv, kk, none⟩ (.int .i64 (mz : Int)) = wE at *
                have hx4 := (hx3.shrink y (whole_le HLEN.out.2.1)).up1
                have hx5 := hx4.shrink y (whole_le HLEN.out.2.1)
                have hx6 := Holds.sel [_, _, _, _] hx5 [2, 3, 0, 1] rfl
                simp only [pick, List.getElem?_cons_succ, List.getElem?_cons_zero, List.append_eq, List.cons_append, List.nil_append] at hx6
                rw [HA2.out.2.1, HA2.out.2.2] at hx6
                have HX6 := Lib.hid hx6
                clear hx3 hx4 hx5 hx6 HX2 ez ek fk n0 n1 kk0 kk1 g2 g3 g4 g6 m0 m1 tz
                have yb : decide ((y : Int) ≤ (ca : Int)) = true := dt yc1
                have yb2 : y ≤ ca := Int.ofNat_le.1 yc1
                have yd : decide ((y : Int) ≤ (cv : Int)) = true := dt yc2
                have yd2 : y ≤ cv := Int.ofNat_le.1 yc2
                have hsa := fun w => cut_sl w ga n yb2
                have hsb := fun w => cut_int w gv n yd2
                go_wp2_with fail
                refine ⟨⟨N + 1, A2, T', Lib.hid ?_, by go_num, ⟨_, _, by rw [HA2.out.1]⟩, HI2, Lib.hid (HBK.out _ _ ?_)⟩, ?_⟩
                · rw [HA2.out.1]
                  exact whole_next HN.out HLEN.out.1 HLEN.out.2.1
                · unfold wents
                  simp only [List.cons_append]
                  rw [HA2.out.1]
                  exact HX6.out
                · exact whole_lt HLEN.out.2.1
          · have hA0 : A = [] := List.eq_nil_of_length_eq_zero (Nat.eq_zero_of_not_pos hn0)
            subst hA0
            have hT : T = [] := HI.out.1.done
            subst hT
            have hwt := waits w wr a _ _ HS.out
            have hbw := HS.out.below
            rw [show (stW (sntOf M) []).length = 0 from rfl] at hwt
            have HWT := Lib.hid hwt
            have HBW := Lib.hid hbw
            clear hwt hbw hG hback hn0
            go_wp2_with fail
            refine HWT.out.mono ?_
            rintro e' w9 ⟨rfl, rfl⟩
            go_wp2_with fail
            go_ret
            exact ⟨rfl, by first | exact HBW.out | (rw [← HE.out]; exact HBW.out)⟩

end Go.Proofs.Ytpnnalkihcemhaa.Frag
