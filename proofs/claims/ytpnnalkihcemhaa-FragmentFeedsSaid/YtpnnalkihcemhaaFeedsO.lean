/- The law FragmentFeeds: its arguments opened; the messages' parts as they are made; both assemblers side by side. -/
import Derived.Test.YtpnnalkihcemhaaFeedsF
import Derived.Test.YtpnnalkihcemhaaWholeM
import Derived.Test.YtpnnalkihcemhaaFragO
set_option linter.unusedVariables false
set_option linter.unusedSimpArgs false
namespace Go.Proofs.Ytpnnalkihcemhaa.Frag
open Go.Sort Go.RowKit Go.Deep Go.WideShapes Go.ChangeShapes Go.Proofs.Ytpnnalkihcemhaa.Mem Go.Proofs.Ytpnnalkihcemhaa.Bits Go.Proofs.Ytpnnalkihcemhaa.Open Go.Proofs.Ytpnnalkihcemhaa.Num Go.Proofs.Ytpnnalkihcemhaa.Wr Go.Proofs.Ytpnnalkihcemhaa.Step Go.Proofs.YtpnnalkihcemhaaW.PrintWords

theorem part_bytes2 {id : Int} {bs : List Int} {j : Nat} (h : bytesOk bs) : bytesOk (part id bs j) := by
  refine ⟨?_, fun c hc => ?_⟩
  · rw [part_length]; omega
  · unfold part at hc
    rcases List.mem_append.1 hc with hc | hc
    · exact pack_byte _ c hc
    · exact h.2 c (List.mem_of_mem_drop (List.mem_of_mem_take hc))
/-- An op: raw or not, which message, which part, the bytes. -/
structure Fop where
  raw : Bool
  k : Int
  at_ : Int
  v : Value
  b : List Int
instance : Inhabited Fop := ⟨⟨false, 0, 0, .slice none 0 0, []⟩⟩
def mcell (t : Int × Int × Int) : List Value := [.int .u16 t.1, .int .u16 t.2.1, .int .u8 t.2.2]
def ocell (o : Fop) : List Value := [.bool o.raw, .int .i64 o.k, .int .i64 o.at_, o.v]
def Fop.wf (W : World) (o : Fop) : Prop := Rd W o.v o.b.length (nums .u8 o.b) ∧ ∀ c, c ∈ o.b → 0 ≤ c ∧ c < 256
theorem fop_size : Try.prog.cellsOf 47 = 4 := by kernel_rfl
theorem fop_flat : flat Try.prog 3 47 = some [.bool, .int .i64, .int .i64, .sl 25] := by kernel_rfl
theorem fop_of {H : Type} {enc : TypeId × Value → H} {W : World} {base : Nat} {sp : Nat → Bool} {held : Bool} {fuel : Nat} {cs : List Value} {x : DataW H × List MemPlace}
    (hx : DataW.trod enc Try.prog W base sp held fuel 47 cs = some x) : ∃ o : Fop, cs = ocell o ∧ o.wf W := by
  have h0 := flat_ok 3 _ _ _ _ _ fop_flat hx
  obtain ⟨r, c1, rfl, h1⟩ := h0.bool_inv
  obtain ⟨n2, c2, rfl, w2, h2⟩ := h1.int_inv
  obtain ⟨n3, c3, rfl, w3, h3⟩ := h2.int_inv
  obtain ⟨v, c4, rfl, ⟨fu, y, hy⟩, h4⟩ := h3.sl_inv
  obtain rfl := h4.nil_inv
  obtain ⟨l, hl1, hl2⟩ := open_rows (P := Try.prog) (t := 25) (e := 5) Try.underlying25 1 byte_size (fun n : Int => [Value.int .u8 n]) (fun n => 0 ≤ n ∧ n < 256) (fun fuel cs x hx => byte_of hx) hy
  exact ⟨⟨r, n2, n3, v, l⟩, rfl, rd_of_rdl hl1, hl2⟩
set_option maxRecDepth 100000 in
theorem open_fops {H : Type} {enc : TypeId × Value → H} {W : World} {base base' : Nat} {sp : Nat → Bool} {held : Bool} {v : Value} {d : DataW H} {ps : List MemPlace} {r : Reach}
    (hok : Value.okWide Try.prog W r base' 36 v) (h : DataW.Trod enc Try.prog W base sp held 36 v d ps) :
    ∃ l : List Fop, RdL W v 4 (l.map ocell) ∧ ∀ o, o ∈ l → o.wf W := by
  obtain ⟨fuel, hf⟩ := trod_of Try.underlying36 hok h
  exact open_rows (P := Try.prog) (t := 36) (e := 47) Try.underlying36 4 fop_size ocell (Fop.wf W) (fun fuel cs x hx => fop_of hx) hf
set_option maxRecDepth 100000 in
theorem open_fmsgs {H : Type} {enc : TypeId × Value → H} {W : World} {base base' : Nat} {sp : Nat → Bool} {held : Bool} {v : Value} {d : DataW H} {ps : List MemPlace} {r : Reach}
    (hok : Value.okWide Try.prog W r base' 35 v) (h : DataW.Trod enc Try.prog W base sp held 35 v d ps) :
    ∃ l : List (Int × Int × Int), RdL W v 3 (l.map mcell) ∧ ∀ t, t ∈ l → MsgOk t.1 t.2.1 t.2.2 := by
  obtain ⟨fuel, hf⟩ := trod_of Try.underlying35 hok h
  exact open_rows (P := Try.prog) (t := 35) (e := 24) Try.underlying35 3 msg_cells mcell (fun t => MsgOk t.1 t.2.1 t.2.2) (fun fuel cs x hx => by
    obtain ⟨i, s, y, h1, h2⟩ := msg_cut hx
    exact ⟨(i, s, y), h1, h2⟩) hf

/-- A message's parts among the pieces. -/
def PartsIn (P : List Ent) (v : Value) (id : Int) (bs : List Int) : Prop :=
  (∃ A c, v = .slice A 0 c ∧ errS bs ≠ 0 ∧ c ≤ maxLen ∧ (A = none → c = 0)) ∨ (errS bs = 0 ∧ ∃ ws : List Value, ws.length = cnt bs.length ∧ .rw v 25 1 (cnt bs.length) ws ∈ P ∧ ∀ j, j < cnt bs.length → ∃ vj, ws[j]? = some vj ∧ .rw vj 5 1 (part id bs j).length (nums .u8 (part id bs j)) ∈ P)
theorem PartsIn.less {P P' : List Ent} {v : Value} {id : Int} {bs : List Int} (h : PartsIn P v id bs) (hs : ∀ e, e ∈ P → e ∈ P') : PartsIn P' v id bs := by
  rcases h with h | ⟨h1, ws, h2, h3, h4⟩
  · exact .inl h
  · exact .inr ⟨h1, ws, h2, hs _ h3, fun j hj => by obtain ⟨vj, h5, h6⟩ := h4 j hj; exact ⟨vj, h5, hs _ h6⟩⟩
theorem PartsIn.rds {P : List Ent} {v : Value} {id : Int} {bs : List Int} {W w : World} {B : Nat} {F : List Ent} (h : PartsIn P v id bs) (hH : Holds W B w F) (hs : ∀ e, e ∈ P → e ∈ F) : RdS w v (partsOf id bs) := by
  rcases h with ⟨A, c, rfl, he, hc, hn⟩ | ⟨h1, ws, h2, h3, h4⟩
  · rw [partsOf_not he]
    refine ⟨[], rfl, ?_, fun i b hb => by simp at hb⟩
    cases A with
    | none => rw [hn rfl]; exact .inl ⟨rfl, rfl, rfl⟩
    | some ad => exact .inr ⟨ad, c, rfl, Nat.zero_le _, hc, fun j u hu => by simp at hu⟩
  · rw [partsOf_ok h1]
    have hl : (splitL id bs).length = cnt bs.length := by simp [splitL]
    refine ⟨ws, by rw [h2, hl], ?_, fun i b hb => ?_⟩
    · rw [hl]
      exact Rd.of_own (hH.each _ (hs _ h3))
    · unfold splitL at hb
      rw [List.getElem?_map, Option.map_eq_some_iff] at hb
      obtain ⟨i', hi', rfl⟩ := hb
      obtain ⟨hlt, rfl⟩ := List.getElem?_eq_some_iff.1 hi'
      rw [List.length_range] at hlt
      rw [List.getElem_range]
      obtain ⟨vj, h5, h6⟩ := h4 i hlt
      exact ⟨vj, h5, Rd.of_own (hH.each _ (hs _ h6))⟩
theorem rsplit_h (W : World) (B : Nat) (w : World) (F : List Ent) (hH : Holds W B w F) (id : Int) (v : Value) (bs : List Int) (hi0 : 0 ≤ id) (hi1 : id < 65536) (hv : Rd w v bs.length (nums .u8 bs)) :
    Calls Try.prog 17 #[.int .u16 id, v] w fun e' w' => ∃ (A : Option Addr) (n c : Nat) (er : Int) (N : List Ent), e' = .returned (.tuple #[.slice A n c, .int .i64 er]) ∧ PartsIn N (.slice A n c) id bs ∧ Holds W B w' (N ++ F) := by
  by_cases he : errS bs = 0
  · obtain ⟨h0, h4⟩ := errS_zero he
    refine (rsplit_own w id v bs hi0 hi1 hv h0 h4).mono ?_
    rintro e' w' ⟨v', rfl, vs, P, hl, hP, hpt, _⟩
    obtain ⟨A, c, rfl⟩ := hP.slice
    refine ⟨A, _, c, 0, _, rfl, .inr ⟨he, vs, hl, List.mem_cons_self, fun j hj => ?_⟩, Holds.join hH hP⟩
    obtain ⟨vj, h5, h6⟩ := hpt j hj
    exact ⟨vj, h5, List.mem_cons_of_mem _ h6⟩
  · refine (rsplit w id v bs hi0 hi1 hv).mono ?_
    rintro e' w' ⟨v', rfl, hb, hr⟩
    rw [partsOf_not he] at hr
    obtain ⟨vs, hvl, hrd, _⟩ := hr
    rcases hrd with ⟨rfl, _, _⟩ | ⟨ad, c, rfl, _, hm, _⟩
    · exact ⟨none, 0, 0, _, [], rfl, .inl ⟨none, 0, rfl, he, Nat.zero_le _, fun _ => rfl⟩, Holds.belowed hH hb⟩
    · exact ⟨some ad, 0, c, _, [], rfl, .inl ⟨some ad, c, rfl, he, hm, fun h => by cases h⟩, Holds.belowed hH hb⟩
/-- The first k messages' parts, as they lie in memory. -/
def PI (w wr : World) (Ms : List (Int × Int × Int)) (pv : Value) (k : Nat) : Prop :=
  ∃ (vs : List Value) (P : List Ent), vs.length = k ∧ Holds w w.heap.size wr (.rw pv 27 1 k vs :: P) ∧ ∀ (i : Nat) (v : Value) (t : Int × Int × Int), vs[i]? = some v → Ms[i]? = some t → PartsIn P v t.1 (msgB t.2.1 t.2.2)
theorem PI.start {w wr : World} {Ms : List (Int × Int × Int)} (h : Below w.heap.size w wr) : PI w wr Ms (.slice none 0 0) 0 :=
  ⟨[], [], rfl, ((Holds.belowed (Holds.start w) h).nilrow 27 1), fun i v t hv => by simp at hv⟩
theorem PI.below {w wr : World} {Ms : List (Int × Int × Int)} {pv : Value} {k : Nat} (h : PI w wr Ms pv k) : Below w.heap.size w wr := by
  obtain ⟨vs, P, _, hH, _⟩ := h
  exact hH.below
theorem PI.then {w wr wx : World} {Ms : List (Int × Int × Int)} {pv : Value} {k : Nat} (h : PI w wr Ms pv k) (hb : Below wr.heap.size wr wx) : PI w wx Ms pv k := by
  obtain ⟨vs, P, h1, hH, h2⟩ := h
  exact ⟨vs, P, h1, Holds.belowed hH hb, h2⟩
/-- All messages' parts can be read. -/
def RdP (w : World) (pv : Value) (Ms : List (Int × Int × Int)) : Prop :=
  ∃ vs : List Value, Rd w pv Ms.length vs ∧ vs.length = Ms.length ∧ ∀ (i : Nat) (t : Int × Int × Int), Ms[i]? = some t → ∃ v, vs[i]? = some v ∧ RdS w v (partsOf t.1 (msgB t.2.1 t.2.2))
theorem PI.done {w wr : World} {Ms : List (Int × Int × Int)} {pv : Value} (h : PI w wr Ms pv Ms.length) : RdP wr pv Ms := by
  obtain ⟨vs, P, h1, hH, h2⟩ := h
  refine ⟨vs, hH.rd, h1, fun i t ht => ?_⟩
  have hi := (List.getElem?_eq_some_iff.1 ht).1
  refine ⟨vs[i]'(by omega), List.getElem?_eq_getElem _, ?_⟩
  exact (h2 i _ t (List.getElem?_eq_getElem (by omega)) ht).rds hH (fun e he => List.mem_cons_of_mem _ he)
theorem PI.next {w wr : World} {Ms : List (Int × Int × Int)} {k : Nat} {pv' u : Value} {vs : List Value} {P N : List Ent} {t : Int × Int × Int} (ht : Ms[k]? = some t) (h1 : vs.length = k) (h2 : ∀ (i : Nat) (v : Value) (t : Int × Int × Int), vs[i]? = some v → Ms[i]? = some t → PartsIn P v t.1 (msgB t.2.1 t.2.2))
    (hN : PartsIn N u t.1 (msgB t.2.1 t.2.2)) (h : Holds w w.heap.size wr (.rw pv' 27 1 (k + 1) (vs ++ [u]) :: (N ++ P))) : PI w wr Ms pv' (k + 1) := by
  refine ⟨vs ++ [u], N ++ P, by simp [h1], h, fun i v t' hv ht' => ?_⟩
  by_cases hi : i < k
  · rw [List.getElem?_append_left (by omega)] at hv
    exact (h2 i v t' hv ht').less (fun e he => List.mem_append.2 (.inr he))
  · have hik : i = k := by
      have := (List.getElem?_eq_some_iff.1 hv).1
      rw [List.length_append, h1] at this
      simp at this
      omega
    subst hik
    rw [ht] at ht'
    cases ht'
    rw [List.getElem?_append_right (by omega), h1, Nat.sub_self] at hv
    cases hv
    exact hN.less (fun e he => List.mem_append.2 (.inl he))

/-- Both assemblers: what the reference keeps, and the same by messages. -/
def SI (W w : World) (a b : Nat) (L : List (RP × Value)) : Prop :=
  ∃ v, L.length ≤ 1000 ∧ (∀ x ∈ L, RPok W x) ∧ Asm W w a (grp (L.map (·.1))) [.st b [v] 45, .rw v 117 4 L.length (prow L)]
theorem SI.below {W w : World} {a b : Nat} {L : List (RP × Value)} (h : SI W w a b L) : Below W.heap.size W w := by
  obtain ⟨v, _, _, h⟩ := h
  exact h.below
theorem SI.then {W w w' : World} {a b : Nat} {L : List (RP × Value)} (h : SI W w a b L) (hb : Below w.heap.size w w') : SI W w' a b L := by
  obtain ⟨v, h1, h2, h3⟩ := h
  exact ⟨v, h1, h2, h3.then hb⟩
theorem grp_nil : grp [] = [] := rfl
/-- A piece is a slice. -/
theorem mem_slice {W w : World} {B : Nat} {H : List Ent} {v : Value} {e : TypeId} {n : Nat} {xs : List Value} (h : Holds W B w H) (hm : .rw v e 1 n xs ∈ H) : ∃ A c, v = .slice A n c := by
  have h1 := h.each _ hm
  rcases h1.2 with ⟨rfl, h2⟩ | ⟨g, cap, cur, rfl, _⟩
  · exact ⟨none, 0, by rw [h2]⟩
  · exact ⟨_, _, rfl⟩
/-- Feed, with what it gives kept beside. -/
theorem afeed_keep (W w : World) (a : Nat) (l : List Msg) (F : List Ent) (A : Option Addr) (c : Nat) (bs : List Int) (hS : Asm W w a l F) (hr : ∀ w', Holds W W.heap.size w' F → Rd w' (.slice A bs.length c) bs.length (nums .u8 bs)) (hb : bytesOk bs) :
    Calls Try.prog 19 #[.pointer (some ⟨a, 0, none⟩), .slice A bs.length c] w fun e' w' => ∃ Ao co, e' = .returned (.tuple #[.slice Ao ((feedA l bs).2.out.getD []).length co, .bool (feedA l bs).2.out.isSome, .int .i64 (feedA l bs).2.er]) ∧
      Asm W w' a (feedA l bs).1 (.rw (.slice Ao ((feedA l bs).2.out.getD []).length co) 5 1 ((feedA l bs).2.out.getD []).length (nums .u8 ((feedA l bs).2.out.getD [])) :: F) := by
  obtain ⟨hok, L, rfl, hA⟩ := hS
  have hrw := hr w hA.frame
  obtain ⟨A1, c1, he, hc, _, hr1⟩ := Rd.form hrw (nums_length _ _)
  simp only [Value.slice.injEq, true_and] at he
  obtain ⟨rfl, rfl⟩ := he
  refine (feed W W.heap.size w a L A c bs F hok hb hr hc hA).mono ?_
  rintro e' w' ⟨L', h1, h2 | ⟨out, vo, h2, h3, h4⟩⟩
  · obtain ⟨ho, rfl, hA2⟩ := h2
    rw [ho]
    obtain ⟨hw, v, h5⟩ := hA2
    refine ⟨none, 0, rfl, feedA_ok hok, L', h1, hw, v, ?_⟩
    have h6 := Holds.permMid (W := W) (B := W.heap.size) (w := w') (F := F) [] (M := .rw (.slice none 0 0) 5 1 0 [] :: (.st a [v] 41 :: .rw v 111 3 L'.length (mrows L') :: L'.flatMap MM.ents))
      (M' := (.st a [v] 41 :: .rw v 111 3 L'.length (mrows L') :: L'.flatMap MM.ents) ++ [.rw (.slice none 0 0) 5 1 0 []]) (by simpa only [List.cons_append, List.append_assoc, List.nil_append] using h5.nilrow 5 1)
      (List.perm_append_singleton _ _).symm
    simpa only [List.cons_append, List.append_assoc, List.nil_append, Option.getD_none, List.length_nil, nums, List.map_nil] using h6
  · rw [h2]
    obtain ⟨Ao, co, rfl⟩ : ∃ Ao co, vo = .slice Ao out.length co := by
      obtain ⟨hw, v, h5⟩ := h4
      exact mem_slice h5 (List.mem_cons_of_mem _ (List.mem_cons_of_mem _ (List.mem_append_right _ (List.mem_cons_self ..))))
    exact ⟨Ao, co, h3, feedA_ok hok, L', h1, h4⟩
/-- The first assembler takes a part. -/
theorem si_feed (W w : World) (a b : Nat) (L : List (RP × Value)) (A : Option Addr) (c : Nat) (bs : List Int) (h : SI W w a b L) (hr : Rd W (.slice A bs.length c) bs.length (nums .u8 bs)) (hb : bytesOk bs) :
    Calls Try.prog 19 #[.pointer (some ⟨a, 0, none⟩), .slice A bs.length c] w fun e' w' => ∃ Ao co, e' = .returned (.tuple #[.slice Ao ((refA (L.map (·.1)) bs).2.out.getD []).length co, .bool (refA (L.map (·.1)) bs).2.out.isSome, .int .i64 (refA (L.map (·.1)) bs).2.er]) ∧
      ∃ G, RA W w' b L (.rw (.slice Ao ((refA (L.map (·.1)) bs).2.out.getD []).length co) 5 1 ((refA (L.map (·.1)) bs).2.out.getD []).length (nums .u8 ((refA (L.map (·.1)) bs).2.out.getD [])) :: G) ∧
        ∀ wx L' x, x = .rw (.slice Ao ((refA (L.map (·.1)) bs).2.out.getD []).length co) 5 1 ((refA (L.map (·.1)) bs).2.out.getD []).length (nums .u8 ((refA (L.map (·.1)) bs).2.out.getD [])) → L'.map (·.1) = (refA (L.map (·.1)) bs).1 → RA W wx b L' (x :: G) → SI W wx a b L' := by
  obtain ⟨v, h1, h2, h3⟩ := h
  have hsame := ref_same (R := L.map (·.1)) (bs := bs) h3.1
  refine (afeed_keep W w a _ _ A c bs h3 (fun w' hw => hr.below hw.below) hb).mono ?_
  rintro e' w' ⟨Ao, co, rfl, hS⟩
  rw [hsame] at hS ⊢
  dsimp only at hS ⊢
  obtain ⟨G, hG, hback⟩ := hS.split
  refine ⟨Ao, co, rfl, G, ⟨h1, h2, v, ?_⟩, ?_⟩
  · have := Holds.sel [_, _, _] hG [1, 2, 0] rfl
    exact this
  · rintro wx L' x rfl hL' ⟨h1', h2', v', hR⟩
    refine ⟨v', h1', h2', ?_⟩
    rw [hL']
    refine hback wx _ ?_
    exact Holds.sel [_, _, _] hR [0, 1] rfl
/-- The other takes it too. -/
theorem si_rfeed (W w : World) (a b : Nat) (L : List (RP × Value)) (A : Option Addr) (c : Nat) (bs : List Int) (x : Ent) (G : List Ent) (hl : L.length ≤ 190) (hR : RA W w b L (x :: G)) (hback : ∀ wx L', L'.map (·.1) = (refA (L.map (·.1)) bs).1 → RA W wx b L' (x :: G) → SI W wx a b L')
    (hr : Rd W (.slice A bs.length c) bs.length (nums .u8 bs)) (hb : bytesOk bs) :
    Calls Try.prog 20 #[.pointer (some ⟨b, 0, none⟩), .slice A bs.length c] w fun e' w' => ∃ Ao co L', e' = .returned (.tuple #[.slice Ao ((refA (L.map (·.1)) bs).2.out.getD []).length co, .bool (refA (L.map (·.1)) bs).2.out.isSome, .int .i64 (refA (L.map (·.1)) bs).2.er]) ∧
      Rd w' (.slice Ao ((refA (L.map (·.1)) bs).2.out.getD []).length co) ((refA (L.map (·.1)) bs).2.out.getD []).length (nums .u8 ((refA (L.map (·.1)) bs).2.out.getD [])) ∧ L'.length ≤ L.length + 1 ∧ SI W w' a b L' ∧ x.ok W.heap.size w' := by
  refine (rfeed W w b L _ A c bs hR (Nat.le_trans (Nat.succ_le_succ hl) (by decide)) hl hr hb).mono ?_
  rintro e' w' ⟨L', Ao, co, h1, rfl, h3, h4⟩
  refine ⟨Ao, co, L', rfl, h3, ?_, hback w' L' h1 h4, ?_⟩
  · have := refA_len (L.map (·.1)) bs
    rw [← h1, List.length_map, List.length_map] at this
    exact this
  · obtain ⟨_, _, v', h5⟩ := h4
    exact h5.each _ (List.mem_cons_of_mem _ (List.mem_cons_of_mem _ List.mem_cons_self))
theorem si_waits (W w : World) (a b : Nat) (L : List (RP × Value)) (h : SI W w a b L) :
    Calls Try.prog 22 #[.pointer (some ⟨a, 0, none⟩)] w fun e' w' => e' = .returned (.int .i64 ((waitsR (L.map (·.1)) : Nat) : Int)) ∧ w' = w := by
  obtain ⟨v, _, _, h3⟩ := h
  refine (waits W w a _ _ h3).mono ?_
  rintro e' w' ⟨rfl, rfl⟩
  exact ⟨by rw [waits_grp], rfl⟩
theorem si_rwaits (W w : World) (a b : Nat) (L : List (RP × Value)) (h : SI W w a b L) :
    Calls Try.prog 23 #[.pointer (some ⟨b, 0, none⟩)] w fun e' w' => e' = .returned (.int .i64 ((waitsR (L.map (·.1)) : Nat) : Int)) ∧ SI W w' a b L := by
  obtain ⟨v, h1, h2, h3⟩ := h
  obtain ⟨G, hG, hback⟩ := h3.split
  refine (rwaits W w b L G ⟨h1, h2, v, hG⟩).mono ?_
  rintro e' w' ⟨rfl, hb⟩
  exact ⟨rfl, v, h1, h2, h3.then hb⟩
theorem SI.start {W w : World} {a b : Nat} (h : Holds W W.heap.size w [.st b [.slice none 0 0] 45, .st a [.slice none 0 0] 41]) : SI W w a b [] := by
  refine ⟨.slice none 0 0, Nat.zero_le _, by simp, ?_⟩
  rw [List.map_nil, grp_nil]
  refine Asm.start ?_
  exact Holds.sel [_, _, _] (h.nilrow 117 4) [2, 1, 0] rfl

end Go.Proofs.Ytpnnalkihcemhaa.Frag
