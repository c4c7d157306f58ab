/- Scripts for a sender and a receiver as arguments; the two with all that was queued, came and was sent. -/
import Derived.Test.YtpnnalkihcemhaaTwoP
import Derived.Test.YtpnnalkihcemhaaStrConf
import Derived.Test.YtpnnalkihcemhaaOpen
set_option linter.unusedVariables false
set_option linter.unusedSimpArgs false
namespace Go.Proofs.Ytpnnalkihcemhaa.Str
open Go.Sort Go.RowKit Go.Deep Go.WideShapes Go.ChangeShapes Go.Proofs.Ytpnnalkihcemhaa.Mem Go.Proofs.Ytpnnalkihcemhaa.Open Go.Proofs.Ytpnnalkihcemhaa.Bits Go.Proofs.Ytpnnalkihcemhaa.Wr Go.Proofs.Ytpnnalkihcemhaa.Num Go.Proofs.Ytpnnalkihcemhaa.Step Go.Proofs.YtpnnalkihcemhaaW.PrintWords

structure POp where
  kind : Int
  n : Int
  s : ByteArray
def POp.cells (o : POp) : List Value := [.int .i64 o.kind, .int .i64 o.n, .string o.s]
def POp.wf (o : POp) : Prop := -9223372036854775808 ≤ o.n ∧ o.n < 9223372036854775808

theorem pop_size : Try.prog.cellsOf 101 = 3 := by kernel_rfl
theorem pop_flat : flat Try.prog 3 101 = some [.int .i64, .int .i64, .str] := by kernel_rfl

theorem pop_of {H : Type} {enc : TypeId × Value → H} {W : World} {base : Nat} {sp : Nat → Bool} {held : Bool} {fuel : Nat} {cs : List Value} {x : DataW H × List MemPlace}
    (hx : DataW.trod enc Try.prog W base sp held fuel 101 cs = some x) : ∃ o : POp, cs = o.cells ∧ o.wf := by
  have h0 := flat_ok 3 _ _ _ _ _ pop_flat hx
  obtain ⟨n1, c1, rfl, w1, h1⟩ := h0.int_inv
  obtain ⟨n2, c2, rfl, w2, h2⟩ := h1.int_inv
  obtain ⟨s, c3, rfl, w3, h3⟩ := h2.str_inv
  obtain rfl := h3.nil_inv
  refine ⟨⟨n1, n2, s⟩, rfl, ?_⟩
  simp [Lit.wf, IntKind.min, IntKind.max, IntKind.signed, IntKind.bits] at w2
  unfold POp.wf
  simp only
  omega

set_option maxRecDepth 100000 in
theorem open_pops {H : Type} {enc : TypeId × Value → H} {W : World} {base base' : Nat} {sp : Nat → Bool} {held : Bool} {v : Value} {d : DataW H} {ps : List MemPlace} {r : Reach}
    (hok : Value.okWide Try.prog W r base' 99 v) (h : DataW.Trod enc Try.prog W base sp held 99 v d ps) :
    ∃ l : List POp, RdL W v 3 (l.map POp.cells) ∧ ∀ o, o ∈ l → o.wf := by
  obtain ⟨fuel, hf⟩ := trod_of Try.underlying99 hok h
  haveI : Inhabited POp := ⟨⟨0, 0, ByteArray.empty⟩⟩
  exact open_rows (P := Try.prog) (t := 99) (e := 101) Try.underlying99 3 pop_size POp.cells POp.wf (fun fuel cs x hx => pop_of hx) hf

theorem pops_at {w : World} {v : Value} {l : List POp} (h : RdL w v 3 (l.map POp.cells)) :
    ∃ A c, v = .slice A l.length c ∧ l.length ≤ c ∧ c ≤ maxLen ∧ ∀ (i : Nat) (o : POp), l[i]? = some o → ∃ b off, A = some ⟨b, off, none⟩ ∧ b < w.heap.size ∧
      w.cell? ⟨b, off + i * 3, none⟩ = some (.int .i64 o.kind) ∧ w.cell? ⟨b, off + i * 3 + 1, none⟩ = some (.int .i64 o.n) ∧ w.cell? ⟨b, off + i * 3 + 2, none⟩ = some (.string o.s) := by
  obtain ⟨A, c, hv, hc, hm, hr⟩ := h.form (by decide)
  rw [List.length_map] at hv hc
  refine ⟨A, c, hv, hc, hm, fun i o hi => ?_⟩
  obtain ⟨b, off, hA, hb, hr⟩ := hr i (by rw [List.length_map]; exact (List.getElem?_eq_some_iff.1 hi).1)
  have he : (l.map POp.cells)[i]? = some o.cells := by rw [List.getElem?_map, hi]; rfl
  exact ⟨b, off, hA, hb, hr _ he 0 _ rfl, hr _ he 1 _ rfl, hr _ he 2 _ rfl⟩

theorem info_sl : (Try.prog.info? 25).map (fun i => (i.zero, i.size, i.bytes)) = some (some (.slice none 0 0), 1, 24) := by kernel_rfl
theorem one_str (l : List ByteArray) : ∀ u ∈ strs l, u.oneCell' = true := by
  intro u hu
  simp [strs] at hu
  obtain ⟨x, _, rfl⟩ := hu
  rfl

/-- All that is held: the sender and the receiver, what was queued, what came, and the bundles that were sent. -/
def TW (w wx : World) (b1 b2 : Nat) (Q : List ByteArray) (G V : Nat) (vq vc vs : Value) (Rs : List (List Bool)) : Prop :=
  ∃ (v : Value) (vals : List Value) (P : List Ent), Holds w w.heap.size wx (.st b1 [.int .u32 (G : Int), v] 65 :: .qu v 9 (strs (Q.drop G)) :: .st b2 [.int .u32 (V : Int)] 85 ::
    .rw vq 9 1 Q.length (strs Q) :: .rw vc 9 1 V (strs (Q.take V)) :: .rw vs 25 1 Rs.length vals :: P) ∧ vals.length = Rs.length ∧
    ∀ (i : Nat) (R : List Bool), Rs[i]? = some R → ∃ vi, vals[i]? = some vi ∧ Ent.rw vi 5 1 (nby R) (nums .u8 (pack R)) ∈ P

def TInv (Q : List ByteArray) (G V : Nat) (Rs : List (List Bool)) (k : Nat) : Prop :=
  Good Q ∧ G ≤ V ∧ V ≤ Q.length ∧ Q.length ≤ k ∧ k ≤ 200 ∧ Q.length - G ≤ 32 ∧ Rs.length ≤ k ∧ ∀ R, R ∈ Rs → Bun Q G R

section
variable {w wx wy : World} {b1 b2 G V k : Nat} {Q : List ByteArray} {vq vc vs : Value} {Rs : List (List Bool)}
theorem TW.below (h : TW w wx b1 b2 Q G V vq vc vs Rs) : Below w.heap.size w wx := by obtain ⟨_, _, _, h, _⟩ := h; exact h.below
theorem TW.then (h : TW w wx b1 b2 Q G V vq vc vs Rs) (hb : Below wx.heap.size wx wy) : TW w wy b1 b2 Q G V vq vc vs Rs := by
  obtain ⟨v, vals, P, h, h2⟩ := h
  exact ⟨v, vals, P, Holds.belowed h hb, h2⟩
theorem TW.slq (h : TW w wx b1 b2 Q G V vq vc vs Rs) : ∃ A c, vq = .slice A Q.length c := by
  obtain ⟨_, _, _, h, _⟩ := h
  exact h.up3.slice
theorem TW.slc (h : TW w wx b1 b2 Q G V vq vc vs Rs) : ∃ A c, vc = .slice A V c := by
  obtain ⟨_, _, _, h, _⟩ := h
  exact h.up4.slice
theorem TW.sls (h : TW w wx b1 b2 Q G V vq vc vs Rs) : ∃ A c, vs = .slice A Rs.length c := by
  obtain ⟨_, _, _, h, _⟩ := h
  exact h.up5.slice

theorem TInv.next (h : TInv Q G V Rs k) (hk : k + 1 ≤ 200) : TInv Q G V Rs (k + 1) := by
  obtain ⟨h1, h2, h3, h4, h5, h6, h7, h8⟩ := h
  exact ⟨h1, h2, h3, by omega, hk, h6, by omega, h8⟩
theorem TInv.queue {t : ByteArray} (h : TInv Q G V Rs k) (hk : k + 1 ≤ 200) (he : qerr (Q.drop G) t = 0) : TInv (Q ++ [t]) G V Rs (k + 1) ∧ qnext (Q.drop G) t = (Q ++ [t]).drop G := by
  obtain ⟨h1, h2, h3, h4, h5, h6, h7, h8⟩ := h
  have hsz : 1 ≤ t.size ∧ t.size ≤ 60 := by
    unfold qerr at he
    split at he
    · assumption
    · cases he
  have h32 : (Q.drop G).length ≠ 32 := by
    intro h32
    unfold qerr at he
    rw [if_pos h32] at he
    split at he <;> cases he
  rw [List.length_drop] at h32
  refine ⟨⟨?_, h2, by simp; omega, by simp; omega, hk, by simp; omega, by omega, fun R hR => (h8 R hR).more t (Nat.le_refl _)⟩, ?_⟩
  · intro u hu
    rcases List.mem_append.1 hu with hu | hu
    · exact h1 u hu
    · have : u = t := by simpa using hu
      rw [this]; exact hsz
  · rw [show qnext (Q.drop G) t = Q.drop G ++ [t] from if_pos he, List.drop_append_of_le_length (by omega)]
theorem TInv.conf (h : TInv Q G V Rs k) (hk : k + 1 ≤ 200) : TInv Q V V Rs (k + 1) := by
  obtain ⟨h1, h2, h3, h4, h5, h6, h7, h8⟩ := h
  exact ⟨h1, Nat.le_refl _, h3, by omega, hk, by omega, by omega, fun R hR => (h8 R hR).on h2⟩
theorem TInv.come {V' : Nat} (h : TInv Q G V Rs k) (hk : k + 1 ≤ 200) (h1 : V ≤ V') (h2 : V' ≤ Q.length) : TInv Q G V' Rs (k + 1) := by
  obtain ⟨a1, a2, a3, a4, a5, a6, a7, a8⟩ := h
  exact ⟨a1, by omega, h2, by omega, hk, a6, by omega, a8⟩
theorem TInv.send (h : TInv Q G V Rs k) (hk : k + 1 ≤ 200) : TInv Q G V (Rs ++ [sendB (G : Int) (Q.drop G) (sendN (Q.drop G))]) (k + 1) := by
  obtain ⟨a1, a2, a3, a4, a5, a6, a7, a8⟩ := h
  refine ⟨a1, a2, a3, by omega, hk, a6, by simp; omega, ?_⟩
  intro R hR
  rcases List.mem_append.1 hR with hR | hR
  · exact a8 R hR
  · have : R = sendB (G : Int) (Q.drop G) (sendN (Q.drop G)) := by simpa using hR
    rw [this]
    exact Bun.new (by omega) a1

theorem tw_waits {D : Nat} (h : TW w wx b1 b2 Q G V vq vc vs Rs) (hD : Q.length - G = D) :
    Calls Try.prog 34 #[.pointer (some ⟨b1, 0, none⟩)] wx fun e' w' => e' = .returned (.int .i64 (D : Int)) ∧ w' = wx := by
  obtain ⟨v, vals, P, h, _⟩ := h
  have := swaits w w.heap.size wx b1 _ _ _ ⟨v, h⟩
  rwa [List.length_drop, hD] at this
theorem tw_wants (h : TW w wx b1 b2 Q G V vq vc vs Rs) (hV : V ≤ 1000) :
    Calls Try.prog 40 #[.pointer (some ⟨b2, 0, none⟩)] wx fun e' w' => e' = .returned (.int .u32 ((V : Int) + 1)) ∧ w' = wx := by
  obtain ⟨v, vals, P, h, _⟩ := h
  exact swants w w.heap.size wx b2 (V : Int) _ _ h.up2 (by omega) (by omega)
theorem conf_V {G V len : Nat} (h : G ≤ V) (hl : V ≤ G + len) : confN (G : Int) len ((V : Int) + 1) = V - G := by
  unfold confN
  split <;> omega
theorem tw_confirm (h : TW w wx b1 b2 Q G V vq vc vs Rs) (hI : TInv Q G V Rs k) :
    Calls Try.prog 32 #[.pointer (some ⟨b1, 0, none⟩), .int .u32 ((V : Int) + 1)] wx fun e' w' => (∃ r : Int, e' = .returned (.int .i64 r)) ∧ TW w w' b1 b2 Q V V vq vc vs Rs := by
  obtain ⟨v, vals, P, h, hp⟩ := h
  obtain ⟨a1, a2, a3, a4, a5, a6, a7, a8⟩ := hI
  have hl : (Q.drop G).length = Q.length - G := List.length_drop
  refine (sconfirm w w.heap.size wx b1 (G : Int) ((V : Int) + 1) (Q.drop G) _ ⟨v, h⟩ (by omega) (by omega) (by omega) (by omega) (by omega)).mono ?_
  rintro e' w' ⟨rfl, v', h'⟩
  rw [hl, conf_V a2 (by omega)] at h'
  have e1 : (G : Int) + ((V - G : Nat) : Int) = (V : Int) := by omega
  have e2 : G + (V - G) = V := by omega
  rw [e1, List.drop_drop, e2] at h'
  exact ⟨⟨_, rfl⟩, v', vals, P, h', hp⟩
theorem tw_queue {t : ByteArray} {er : Int} (h : TW w wx b1 b2 Q G V vq vc vs Rs) (hI : TInv Q G V Rs k) (he : qerr (Q.drop G) t = er) :
    Calls Try.prog 25 #[.pointer (some ⟨b1, 0, none⟩), .string t] wx fun e' w' => e' = .returned (.int .i64 er) ∧ Below w.heap.size w w' ∧ w.heap.size ≤ w'.heap.size ∧
      ∃ (v : Value) (vals : List Value) (P : List Ent), Holds w w.heap.size w' (.st b1 [.int .u32 (G : Int), v] 65 :: .qu v 9 (strs (qnext (Q.drop G) t)) :: .st b2 [.int .u32 (V : Int)] 85 ::
        .rw vq 9 1 Q.length (strs Q) :: .rw vc 9 1 V (strs (Q.take V)) :: .rw vs 25 1 Rs.length vals :: P) ∧ vals.length = Rs.length ∧
        ∀ (i : Nat) (R : List Bool), Rs[i]? = some R → ∃ vi, vals[i]? = some vi ∧ Ent.rw vi 5 1 (nby R) (nums .u8 (pack R)) ∈ P := by
  obtain ⟨v, vals, P, h, hp⟩ := h
  obtain ⟨a1, a2, a3, a4, a5, a6, a7, a8⟩ := hI
  refine (squeue w w.heap.size wx b1 (G : Int) (Q.drop G) _ t ⟨v, h⟩ (by rw [List.length_drop]; omega)).mono ?_
  rintro e' w' ⟨rfl, v', h'⟩
  rw [he]
  exact ⟨rfl, h'.below, h'.size, v', vals, P, h', hp⟩

/-- What was queued has one line more. -/
theorem tw_queued {v' : Value} {t : ByteArray} {vals : List Value} {P : List Ent} {vS : Value}
    (h : Holds w w.heap.size wx (.rw v' 9 1 (Q.length + 1) (strs Q ++ [.string t]) :: .st b1 [.int .u32 (G : Int), vS] 65 :: .qu vS 9 (strs ((Q ++ [t]).drop G)) :: .st b2 [.int .u32 (V : Int)] 85 ::
      .rw vc 9 1 V (strs (Q.take V)) :: .rw vs 25 1 Rs.length vals :: P)) (hV : V ≤ Q.length) (hl : vals.length = Rs.length)
    (hp : ∀ (i : Nat) (R : List Bool), Rs[i]? = some R → ∃ vi, vals[i]? = some vi ∧ Ent.rw vi 5 1 (nby R) (nums .u8 (pack R)) ∈ P) : TW w wx b1 b2 (Q ++ [t]) G V v' vc vs Rs := by
  refine ⟨vS, vals, P, ?_, hl, hp⟩
  have e1 : (Q ++ [t]).length = Q.length + 1 := by simp
  have e2 : (Q ++ [t]).take V = Q.take V := List.take_append_of_le_length hV
  rw [e1, e2, strs_append]
  exact h.perm (perm3.symm)

/-- A bundle is sent. -/
theorem tw_sent {v' vb : Value} {R : List Bool} {vals : List Value} {P : List Ent} {vS : Value}
    (h : Holds w w.heap.size wx (.rw v' 25 1 (Rs.length + 1) (vals ++ [vb]) :: .rw vb 5 1 (nby R) (nums .u8 (pack R)) :: .st b1 [.int .u32 (G : Int), vS] 65 :: .qu vS 9 (strs (Q.drop G)) :: .st b2 [.int .u32 (V : Int)] 85 ::
      .rw vq 9 1 Q.length (strs Q) :: .rw vc 9 1 V (strs (Q.take V)) :: P)) (hl : vals.length = Rs.length)
    (hp : ∀ (i : Nat) (R : List Bool), Rs[i]? = some R → ∃ vi, vals[i]? = some vi ∧ Ent.rw vi 5 1 (nby R) (nums .u8 (pack R)) ∈ P) : TW w wx b1 b2 Q G V vq vc v' (Rs ++ [R]) := by
  refine ⟨vS, vals ++ [vb], .rw vb 5 1 (nby R) (nums .u8 (pack R)) :: P, ?_, by simp [hl], ?_⟩
  · have e1 : (Rs ++ [R]).length = Rs.length + 1 := by simp
    rw [e1]
    have h2 := h.perm (List.perm_append_comm (l₁ := [_, _]) (l₂ := [_, _, _, _, _] ++ P))
    have h3 : Holds w w.heap.size wx ([.st b1 [.int .u32 (G : Int), vS] 65, .qu vS 9 (strs (Q.drop G)), .st b2 [.int .u32 (V : Int)] 85, .rw vq 9 1 Q.length (strs Q), .rw vc 9 1 V (strs (Q.take V))] ++ ([.rw v' 25 1 (Rs.length + 1) (vals ++ [vb]), .rw vb 5 1 (nby R) (nums .u8 (pack R))] ++ P)) :=
      h2.perm (by rw [List.append_assoc]; exact List.Perm.append_left _ List.perm_append_comm)
    exact h3
  · intro i R' hi
    by_cases hik : i < Rs.length
    · rw [List.getElem?_append_left hik] at hi
      obtain ⟨vi, h1, h2⟩ := hp i R' hi
      exact ⟨vi, by rw [List.getElem?_append_left (by omega)]; exact h1, List.mem_cons_of_mem _ h2⟩
    · have hi2 : i = Rs.length := by
        have := (List.getElem?_eq_some_iff.1 hi).1
        simp at this
        omega
      subst hi2
      rw [List.getElem?_append_right (Nat.le_refl _), Nat.sub_self] at hi
      simp at hi
      subst hi
      exact ⟨vb, by rw [← hl, List.getElem?_append_right (Nat.le_refl _), Nat.sub_self]; rfl, List.mem_cons_self ..⟩
end

end Go.Proofs.Ytpnnalkihcemhaa.Str
