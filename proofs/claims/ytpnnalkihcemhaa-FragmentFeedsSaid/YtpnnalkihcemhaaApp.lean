/- One element appended onto a slice that owns its row: by the pieces of memory. -/
import Derived.Test.YtpnnalkihcemhaaMem
import Derived.Test.YtpnnalkihcemhaaStep
set_option linter.unusedVariables false
set_option linter.unusedSimpArgs false
namespace Go.Proofs.Ytpnnalkihcemhaa.Mem
open Go.RowKit

theorem wpList_append_one {P : Program} {W w : World} {B : Nat} {F : List Ent} {ops : Array Oper} {rest : List Oper} {o : Oper} {a : Act} {Q : Exit → Act → World → Prop} (hgd : o.guard = none) (s x : Operand) (t : TypeId)
    (ho : o.op = .call { callee := .builtin .append, args := #[s, x], argTypes := #[t, t] }) (e : TypeId) (i : TypeInfo) (z : Value) (size bytes : Nat) (ht : P.underlying t = some (.slice e)) (hi : P.info? e = some i) (hz : i.zero = some z)
    (hsize : i.size = size) (hby : i.bytes = bytes) (hzs : z.cells.size = size) (hsz : 0 < size) {v : Value} {n : Nat} {xs : List Value} (hs : a.eval s = v) (hH : Holds W B w (.rw v e size n xs :: F))
    {g : Nat} (news : List Value) (hx : a.eval x = .slice (some ⟨g, 0, none⟩) 1 1) (hl : news.length = size) (hnews : ∀ j u, news[j]? = some u → w.cell? ⟨g, j, none⟩ = some u) (h1 : ∀ u, u ∈ news → u.oneCell' = true)
    (h63 : n + 1 ≤ 1000000) (hbytes : bytes ≤ 10000)
    (h : ∀ v' w', Holds W B w' (.rw v' e size (n + 1) (xs ++ news) :: F) → wpList P ops Q rest (a.put o.dst v') w') : wpList P ops Q (o :: rest) a w := by
  have hm : n + 1 ≤ maxLen := by unfold maxLen; omega
  have hb : (n + 1) * bytes ≤ 140737488355328 := Nat.le_trans (Nat.mul_le_mul h63 hbytes) (by decide)
  refine wpList_append_own_at w hgd s x t ho B e i z size bytes ht hi hz hsize hby hzs hsz v n xs hs hH.own ⟨g, 0, none⟩ 1 1 news hx (by rw [hl, Nat.one_mul]) (fun j u hu => ?_) h1 hm hb hH.size ?_
  · have : (⟨g, 0, none⟩ : Addr).add j = ⟨g, j, none⟩ := by unfold Addr.add; split <;> simp_all
    rw [this]
    exact hnews j u hu
  · intro v' w' ho' hg _ hat
    exact h v' w' (hH.grew ho' hg (hat.imp id (fun h => ⟨_, h, Nat.le_refl _⟩)))

theorem wpList_append_many {P : Program} {W w : World} {B : Nat} {F : List Ent} {ops : Array Oper} {rest : List Oper} {o : Oper} {a : Act} {Q : Exit → Act → World → Prop} (hgd : o.guard = none) (s x : Operand) (t : TypeId)
    (ho : o.op = .call { callee := .builtin .append, args := #[s, x], argTypes := #[t, t] }) (e : TypeId) (i : TypeInfo) (z : Value) (size bytes : Nat) (ht : P.underlying t = some (.slice e)) (hi : P.info? e = some i) (hz : i.zero = some z)
    (hsize : i.size = size) (hby : i.bytes = bytes) (hzs : z.cells.size = size) (hsz : 0 < size) {v : Value} {n : Nat} {xs : List Value} (hs : a.eval s = v) (hH : Holds W B w (.rw v e size n xs :: F))
    {ad : Addr} {m c : Nat} (news : List Value) (hx : a.eval x = .slice (some ad) m c) (hl : news.length = m * size) (hnews : ∀ j u, news[j]? = some u → w.cell? (ad.add j) = some u) (h1 : ∀ u, u ∈ news → u.oneCell' = true)
    (h63 : n + m ≤ 1000000) (hbytes : bytes ≤ 10000)
    (h : ∀ v' w', Holds W B w' (.rw v' e size (n + m) (xs ++ news) :: F) → wpList P ops Q rest (a.put o.dst v') w') : wpList P ops Q (o :: rest) a w := by
  have hm : n + m ≤ maxLen := by unfold maxLen; omega
  have hb : (n + m) * bytes ≤ 140737488355328 := Nat.le_trans (Nat.mul_le_mul h63 hbytes) (by decide)
  refine wpList_append_own_at w hgd s x t ho B e i z size bytes ht hi hz hsize hby hzs hsz v n xs hs hH.own ad m c news hx hl hnews h1 hm hb hH.size ?_
  intro v' w' ho' hg _ hat
  exact h v' w' (hH.grew ho' hg (hat.imp id (fun h => ⟨_, h, Nat.le_refl _⟩)))

theorem cell_one_at {w : World} {cs : Array Value} {e : TypeId} {g j : Nat} {u : Value} (hg : g = w.heap.size) (h : cs[j]? = some u) : (w.alloc (.cells cs e)).cell? ⟨g, j, none⟩ = some u := by
  subst hg
  exact Step.cell_one_new' w cs e j u h

end Go.Proofs.Ytpnnalkihcemhaa.Mem
