/- What a receiver reads of a bundle that was sent some time ago; plain. -/
import Derived.Test.YtpnnalkihcemhaaRcvL
import Derived.Laws.OwnMore
set_option linter.unusedVariables false
set_option linter.unusedSimpArgs false
namespace Go.Proofs.Ytpnnalkihcemhaa.Str
open Go.Sort Go.RowKit Go.Proofs.Ytpnnalkihcemhaa.Mem Go.Proofs.Ytpnnalkihcemhaa.Bits Go.Proofs.Ytpnnalkihcemhaa.Wr Go.Proofs.Ytpnnalkihcemhaa.Num Go.Proofs.Ytpnnalkihcemhaa.Step Go.Proofs.YtpnnalkihcemhaaW.PrintWords

/-- A receiver that has at least what is ahead of the bundle. -/
theorem recv_sent (g V : Nat) (l : List ByteArray) (hgV : g ≤ V) (h1 : V ≤ 100000) (hg : Good l) :
    recv (V : Int) (bitsB (pack (sendB (g : Int) l (sendN l)))) = if g + sendN l ≤ V then ([], true, (V : Int)) else ((l.take (sendN l)).drop (V - g), true, ((g + sendN l : Nat) : Int)) := by
  obtain ⟨n, hn⟩ : ∃ n, sendN l = n := ⟨_, rfl⟩
  rw [hn, bitsB_pack]
  have hn7 : n ≤ 7 := by rw [← hn]; unfold sendN; omega
  have hnl : n ≤ l.length := by rw [← hn]; unfold sendN; omega
  generalize List.replicate (8 * nby (sendB (g : Int) l n) - (sendB (g : Int) l n).length) false = tl
  by_cases hz : n = 0
  · subst hz
    have e : sendB (g : Int) l 0 = bitsOf 0 3 := by simp [sendB]
    rw [e]
    have hv : val ((bitsOf 0 3 ++ tl).take 3) = 0 := by
      rw [List.take_append_of_le_length (by rw [bitsOf_length]; omega), List.take_of_length_le (by rw [bitsOf_length]; omega)]
      decide
    rw [recv_zero (x := 0) (by rw [List.length_append, bitsOf_length]; omega) (by rw [hv]; rfl) rfl, if_pos (by omega)]
  · have e : sendB (g : Int) l n = bitsOf (n : Int) 3 ++ (bitsOf ((g : Int) + 1) 32 ++ linesB l n) := by unfold sendB; rw [if_neg hz]
    have e2 : sendB (g : Int) l n ++ tl = bitsOf (n : Int) 3 ++ (bitsOf ((g : Int) + 1) 32 ++ (linesB l n ++ tl)) := by rw [e]; simp only [List.append_assoc]
    rw [e2]
    have hv : val ((bitsOf (n : Int) 3 ++ (bitsOf ((g : Int) + 1) 32 ++ (linesB l n ++ tl))).take 3) = (n : Int) := by
      rw [List.take_append_of_le_length (by rw [bitsOf_length]; omega), List.take_of_length_le (by rw [bitsOf_length]; omega), val_bitsOf _ 3 (by omega)]
      omega
    have d3 : (bitsOf (n : Int) 3 ++ (bitsOf ((g : Int) + 1) 32 ++ (linesB l n ++ tl))).drop 3 = bitsOf ((g : Int) + 1) 32 ++ (linesB l n ++ tl) := by
      have := List.drop_left (l₁ := bitsOf (n : Int) 3) (l₂ := bitsOf ((g : Int) + 1) 32 ++ (linesB l n ++ tl))
      rwa [bitsOf_length] at this
    have hv2 : val (((bitsOf (n : Int) 3 ++ (bitsOf ((g : Int) + 1) 32 ++ (linesB l n ++ tl))).drop 3).take 32) = (g : Int) + 1 := by
      rw [d3, List.take_append_of_le_length (by rw [bitsOf_length]; omega), List.take_of_length_le (by rw [bitsOf_length]; omega), val_bitsOf _ 32 (by omega)]
      omega
    have d35 : (bitsOf (n : Int) 3 ++ (bitsOf ((g : Int) + 1) 32 ++ (linesB l n ++ tl))).drop 35 = linesB l n ++ tl := by
      rw [show 35 = 3 + 32 from rfl, ← List.drop_drop, d3]
      have := List.drop_left (l₁ := bitsOf ((g : Int) + 1) 32) (l₂ := linesB l n ++ tl)
      rwa [bitsOf_length] at this
    have hlen : (bitsOf (n : Int) 3 ++ (bitsOf ((g : Int) + 1) 32 ++ (linesB l n ++ tl))).length = 35 + (linesB l n ++ tl).length := by
      rw [List.length_append, List.length_append, bitsOf_length, bitsOf_length]; omega
    have hls : linesOf n (bitsOf (n : Int) 3 ++ (bitsOf ((g : Int) + 1) 32 ++ (linesB l n ++ tl))) = some (l.take n) := by
      unfold linesOf
      rw [if_neg (by omega), d35, takeLines_lines n l tl hnl hg]
    rw [recv_first (given := (V : Int)) (x := n) (x2 := g + 1) (by omega) hv.symm hz hls (by rw [hv2]; omega)]
    rw [if_neg (by omega)]
    by_cases hgn : g + n ≤ V
    · rw [if_pos (by right; omega), if_pos hgn]
    · rw [if_neg (by omega), if_neg hgn]
      have e0 : ((V : Int) + 1 - ((g + 1 : Nat) : Int)).toNat = V - g := by omega
      rw [e0]
      congr 2
      omega

/-- A bundle of lines of Q, of those from at most G on. -/
def Bun (Q : List ByteArray) (G : Nat) (R : List Bool) : Prop :=
  ∃ (gj : Nat) (lj : List ByteArray), R = sendB (gj : Int) lj (sendN lj) ∧ gj ≤ G ∧ lj.take (sendN lj) = (Q.drop gj).take (sendN lj) ∧ gj + sendN lj ≤ Q.length ∧ Good lj

theorem Bun.len {Q : List ByteArray} {G : Nat} {R : List Bool} (h : Bun Q G R) : R.length ≤ 4000 := by
  obtain ⟨gj, lj, rfl, _, _, _, hg⟩ := h
  have h1 := linesB_length hg.fits (sendN lj)
  have h2 : sendN lj ≤ 7 := by unfold sendN; omega
  unfold sendB
  rw [List.length_append, bitsOf_length]
  split
  · simp
  · rw [List.length_append, bitsOf_length]; omega

theorem Bun.more {Q : List ByteArray} {G G' : Nat} {R : List Bool} (h : Bun Q G R) (t : ByteArray) (hG : G ≤ G') : Bun (Q ++ [t]) G' R := by
  obtain ⟨gj, lj, hR, h1, h2, h3, hg⟩ := h
  refine ⟨gj, lj, hR, by omega, ?_, by simp; omega, hg⟩
  rw [h2, List.drop_append_of_le_length (by omega), List.take_append_of_le_length (by rw [List.length_drop]; omega)]
theorem Bun.on {Q : List ByteArray} {G G' : Nat} {R : List Bool} (h : Bun Q G R) (hG : G ≤ G') : Bun Q G' R := by
  obtain ⟨gj, lj, hR, h1, h2, h3, hg⟩ := h
  exact ⟨gj, lj, hR, by omega, h2, h3, hg⟩
theorem Bun.new {Q : List ByteArray} {G : Nat} (hG : G ≤ Q.length) (hg : Good Q) : Bun Q G (sendB (G : Int) (Q.drop G) (sendN (Q.drop G))) := by
  refine ⟨G, Q.drop G, rfl, Nat.le_refl _, rfl, ?_, fun t ht => hg t (List.mem_of_mem_drop ht)⟩
  unfold sendN
  rw [List.length_drop]
  omega

/-- What comes of it. -/
theorem Bun.recv {Q : List ByteArray} {G V : Nat} {R : List Bool} (h : Bun Q G R) (hGV : G ≤ V) (hV : V ≤ Q.length) (hV2 : V ≤ 100000) :
    ∃ (out : List ByteArray) (V' : Nat), recv (V : Int) (bitsB (pack R)) = (out, true, (V' : Int)) ∧ Q.take V ++ out = Q.take V' ∧ V ≤ V' ∧ V' ≤ Q.length ∧ V' = V + out.length := by
  obtain ⟨gj, lj, rfl, h1, h2, h3, hg⟩ := h
  rw [recv_sent gj V lj (by omega) hV2 hg]
  by_cases hc : gj + sendN lj ≤ V
  · rw [if_pos hc]
    exact ⟨[], V, rfl, by simp, Nat.le_refl _, hV, by simp⟩
  · rw [if_neg hc]
    have e : (lj.take (sendN lj)).drop (V - gj) = (Q.take (gj + sendN lj)).drop V := by
      rw [h2, List.drop_take, List.drop_drop, List.drop_take]
      have : gj + (V - gj) = V := by omega
      rw [this]
      congr 1
      omega
    refine ⟨_, gj + sendN lj, rfl, ?_, by omega, h3, ?_⟩
    · rw [e]
      have : Q.take V = (Q.take (gj + sendN lj)).take V := by rw [List.take_take]; congr 1; omega
      rw [this, List.take_append_drop]
    · rw [e, List.length_drop, List.length_take]
      omega

/-- append of whatever slice is read, nil or not. -/
theorem wpList_append_rd {P : Program} {w : World} {ops : Array Oper} {rest : List Oper} {o : Oper} {a : Act} {Q : Exit → Act → World → Prop} (hgd : o.guard = none) (s x : Operand) (t : TypeId)
    (ho : o.op = .call { callee := .builtin .append, args := #[s, x], argTypes := #[t, t] })
    (base : Nat) (e : TypeId) (i : TypeInfo) (z : Value) (bytes : Nat) (ht : P.underlying t = some (.slice e)) (hi : P.info? e = some i) (hz : i.zero = some z)
    (hsize : i.size = 1) (hby : i.bytes = bytes) (hzs : z.cells.size = 1)
    (v : Value) (n : Nat) (xs : List Value) (hs : a.eval s = v) (hown : w.ownsRow base e 1 v n xs)
    (vx : Value) (m : Nat) (news : List Value) (hx : a.eval x = vx) (hrd : Rd w vx m news) (hl : news.length = m) (h1 : ∀ u ∈ news, u.oneCell' = true)
    (h63 : n + m ≤ maxLen) (hbytes : (n + m) * bytes ≤ 140737488355328) (hbase : base ≤ w.heap.size)
    (h : ∀ v' w', w'.ownsRow base e 1 v' (n + m) (xs ++ news) → w.grownBy w' v.ownBlock → (v'.ownBlock = v.ownBlock ∨ v'.ownBlock = some w.heap.size) → wpList P ops Q rest (a.put o.dst v') w') :
    wpList P ops Q (o :: rest) a w := by
  refine wpList_plain hgd fun K hK => ?_
  rcases hrd with ⟨rfl, rfl, rfl⟩ | ⟨ad, c, rfl, hc, hm, hr⟩
  · have hr := run_append_owned_none (P := P) w base t o.type e i 1 ht hi v n xs hown
    unfold Oper.wp execOp
    simp only [ho, resolve, invoke, builtin, Sem.run_bind, Sem.run_pure, Result.andThen_ok, List.map_toArray, List.map_cons, List.map_nil, hs, hx, hr]
    exact hK _ _ (h v w (by rw [Nat.add_zero, List.append_nil]; exact hown) ⟨rfl, rfl, rfl, Nat.le_refl _, fun _ _ _ => rfl⟩ (.inl rfl))
  · obtain ⟨v', w', hrun, h2, h3, _, h5⟩ := run_append_own_at (P := P) w base t o.type e i z 1 bytes ht hi hz hsize hby hzs (by decide) v n xs hown ad m c news (by rw [Nat.mul_one]; exact hl) hr h1 h63 hbytes hbase
    unfold Oper.wp execOp
    simp only [ho, resolve, invoke, builtin, Sem.run_bind, Sem.run_pure, Result.andThen_ok, List.map_toArray, List.map_cons, List.map_nil, hs, hx, hrun]
    exact hK _ _ (h v' w' h2 h3 h5)

end Go.Proofs.Ytpnnalkihcemhaa.Str
