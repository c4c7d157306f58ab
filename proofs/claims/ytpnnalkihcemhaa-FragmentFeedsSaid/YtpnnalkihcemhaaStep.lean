/- Steps of a loop over a list: small facts on numbers. -/
import Derived.Test.YtpnnalkihcemhaaNum
import Derived.Test.YtpnnalkihcemhaaMem
import Derived.Lib.QuietBelow
import Derived.BigQuiet
set_option linter.unusedVariables false
set_option linter.unusedSimpArgs false
namespace Go.Proofs.Ytpnnalkihcemhaa.Step
open Go.Sort Go.RowKit Go.Proofs.Ytpnnalkihcemhaa.Mem Go.Proofs.Ytpnnalkihcemhaa.Num

theorem succ_len (k : Nat) (h : k < maxLen) : wrap64 ((k : Int) + 1) = (k : Int) + 1 := by unfold maxLen at h; unfold wrap64; omega
theorem pred_len (k m : Nat) (h : k = m + 1) (hk : k ≤ maxLen) : IntKind.i64.wrap ((k : Int) - 1) = (m : Int) := by rw [wrap_i64]; unfold maxLen at hk; unfold wrap64; omega
theorem succ_less {n k : Nat} (h : k < n) : n - (intOf (.int .i64 ((k : Int) + 1))).toNat < n - (intOf (.int .i64 (k : Int))).toNat := by simp [intOf]; omega
theorem cast_succ (k : Nat) : Value.int .i64 ((k : Int) + 1) = Value.int .i64 ((k + 1 : Nat) : Int) := by rw [Int.natCast_add]; rfl
theorem some_addr {b off b' off' : Nat} (h : some (⟨b, off, none⟩ : Addr) = some ⟨b', off', none⟩) : b = b' ∧ off = off' := by injection h with h; injection h with h1 h2 h3; exact ⟨h1, h2⟩

theorem cell_one_new' (w : World) (cs : Array Value) (e : TypeId) (j : Nat) (u : Value) (h : cs[j]? = some u) : (w.alloc (.cells cs e)).cell? ⟨w.heap.size, j, none⟩ = some u := by
  have h1 : (w.alloc (.cells cs e)).heap[w.heap.size]? = some (.cells cs e) := by
    show (w.heap.push _)[w.heap.size]? = _
    simp
  simp only [World.cell?, h1]
  exact h

end Go.Proofs.Ytpnnalkihcemhaa.Step
