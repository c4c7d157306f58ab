/- Maps whose keys are ints, as pieces of memory: what a map holds, and every operation on it. -/
import Derived.Test.YtpnnalkihcemhaaMem
import Derived.Maps.Own
import Derived.Maps.OwnSet
import Derived.Maps.Range
set_option linter.unusedVariables false
set_option linter.unusedSimpArgs false
namespace Go.Proofs.Ytpnnalkihcemhaa.Mem
open Go.RowKit Go.ChangeMaps Go.MapKept
open Go.WideElems (Fit rd rg pl rd_val rd_key rg_of)
open Go.Maps (Keyed)

section
variable {W w w' : World} {B : Nat} {F : List Ent}
theorem Holds.setOb {b : Nat} {es : Array MapEntry} {clock : Nat} (h : Holds W B w (.ob b (.map es clock) :: F)) (o : Obj) : Holds W B (setBlock w b o) (.ob b o :: F) :=
  h.step ⟨rfl, rfl, rfl, by simp [setBlock], fun i _ hi => heap_setBlock_other h.head.2 _ (fun e => hi (by rw [e]; rfl))⟩ ⟨h.head.1, heap_setBlock_same h.head.2 _⟩ (fun k hk => .inl hk)
theorem Holds.ob {b : Nat} {o : Obj} (h : Holds W B w (.ob b o :: F)) : w.heap[b]? = some o := h.head.2
theorem Holds.mkOb {H : List Ent} (h : Holds W B w H) (o : Obj) : Holds W B (w.alloc o) (.ob w.heap.size o :: H) :=
  (h.alloc' _).push ⟨h.size, by
    have := (MapKept.heap_alloc w o).1
    exact this⟩ fun k hk y hy hyk => by
    simp only [Ent.key, Option.some.injEq] at hk
    subst hk
    have := ((h.each y hy).lt hyk).2
    omega
end

/-- An element reads as itself. -/
def Rv (v : Value) : Option (DataW Value × List MemPlace) := some (.held v, [])
def img (p : Int × Value) : Lit × DataW Value := (.int .i64 p.1, .held p.2)
/-- The object o is a map of ints that holds just the pairs m. -/
def MapI (P : Program) (k : TypeId) (o : Obj) (m : List (Int × Value)) : Prop :=
  ∃ es clock, o = .map es clock ∧ Fit P k Rv es clock ∧ (es.toList.map (rg P k Rv)).Perm (m.map img)

section
variable {P : Program} {k t e : TypeId} {w : World} {b : Nat} {o : Obj} {m : List (Int × Value)}

theorem MapI.new : MapI P k (.map #[] 0) [] :=
  ⟨#[], 0, rfl, ⟨by simp, stamped_empty 0, by simp⟩, by simp⟩

theorem MapI.size {es : Array MapEntry} (hp : (es.toList.map (rg P k Rv)).Perm (m.map img)) : es.size = m.length := by
  have := hp.length_eq
  simpa using this

theorem mem_of_entry (K : Keyed P k) {es : Array MapEntry} {clock : Nat} (F : Fit P k Rv es clock) (hp : (es.toList.map (rg P k Rv)).Perm (m.map img)) {i : Int} (hkey : keyOf P k (.int .i64 i) = some (.int .i64 i)) {x : MapEntry} (hx : x ∈ es.toList) (hxk : x.key = .int .i64 i) : (i, x.val) ∈ m := by
  obtain ⟨y, hy⟩ := F.reads x hx
  obtain ⟨z, hz, hz2⟩ := rd_val hy
  have hk := rd_key hy
  rw [hxk, hkey] at hk
  have hy2 : y = img (i, x.val) := by
    obtain ⟨y1, y2⟩ := y
    simp only [Option.some.injEq] at hk
    unfold Rv at hz
    simp only [Option.some.injEq] at hz
    subst hz
    dsimp only at hk hz2
    rw [hz2, ← hk]; rfl
  have : img (i, x.val) ∈ m.map img := hp.mem_iff.1 (List.mem_map.2 ⟨x, hx, by rw [rg_of hy, hy2]⟩)
  obtain ⟨⟨i', v'⟩, hm, he⟩ := List.mem_map.1 this
  simp only [img, Prod.mk.injEq, Lit.int.injEq, DataW.held.injEq, true_and] at he
  obtain ⟨rfl, rfl⟩ := he
  exact hm
theorem entry_of_mem (K : Keyed P k) {es : Array MapEntry} {clock : Nat} (F : Fit P k Rv es clock) (hp : (es.toList.map (rg P k Rv)).Perm (m.map img)) {i : Int} {v : Value} (hkey : keyOf P k (.int .i64 i) = some (.int .i64 i)) (hm : (i, v) ∈ m) : ∃ x ∈ es.toList, x.key = .int .i64 i ∧ x.val = v := by
  have : img (i, v) ∈ es.toList.map (rg P k Rv) := hp.mem_iff.2 (List.mem_map.2 ⟨_, hm, rfl⟩)
  obtain ⟨x, hx, he⟩ := List.mem_map.1 this
  obtain ⟨y, hy⟩ := F.reads x hx
  rw [rg_of hy] at he
  obtain ⟨z, hz, hz2⟩ := rd_val hy
  have hk := rd_key hy
  rw [he] at hk hz2
  unfold Rv at hz
  simp only [Option.some.injEq] at hz
  subst hz
  simp only [img] at hk hz2
  injection hz2 with hz2
  exact ⟨x, hx, K.inj hk hkey, hz2.symm⟩

theorem MapI.look (c : Bool) (h : MapI P k o m) (K : Keyed P k) (ht : P.underlying t = some (.map k e)) {z : Value} (hz : (zeroValue e).run P w = .ok z w) (hb : w.heap[b]? = some o) {i : Int} (hkey : keyOf P k (.int .i64 i) = some (.int .i64 i)) :
    (∃ v, (i, v) ∈ m ∧ (Instr.lookup t (.map (some b)) (.int .i64 i) c).run P w = .ok (if c then .tuple #[v, .bool true] else v) w) ∨
    ((∀ v, (i, v) ∉ m) ∧ (Instr.lookup t (.map (some b)) (.int .i64 i) c).run P w = .ok (if c then .tuple #[z, .bool false] else z) w) := by
  obtain ⟨es, clock, rfl, F, hp⟩ := h
  rcases Maps.fit_look c K ht hz hb F hkey with ⟨hrun, hno, _⟩ | ⟨e0, y, he0, hk0, hrun, _, _, _⟩
  · refine .inr ⟨fun v hm => ?_, hrun⟩
    obtain ⟨x, hx, hxk, _⟩ := entry_of_mem K F hp hkey hm
    exact hno x hx hxk
  · exact .inl ⟨e0.val, mem_of_entry K F hp hkey he0 hk0, hrun⟩

theorem MapI.put (h : MapI P k o m) (K : Keyed P k) (ht : P.underlying t = some (.map k e)) (hb : w.heap[b]? = some o) {i : Int} {v : Value} (hkey : keyOf P k (.int .i64 i) = some (.int .i64 i)) (hroom : m.length < maxLen) (hnew : ∀ v, (i, v) ∉ m) :
    ∃ o', (Instr.mapUpdate t (.map (some b)) (.int .i64 i) v).run P w = .ok () (setBlock w b o') ∧ MapI P k o' (m ++ [(i, v)]) := by
  obtain ⟨es, clock, rfl, F, hp⟩ := h
  obtain ⟨es', clock', hrun, F', hput, _, _, _⟩ := Maps.fit_store (R' := Rv) (val := v) K ht hb F (by rw [MapI.size hp]; exact hroom) (fun _ _ _ z hz => hz) hkey rfl
  refine ⟨_, hrun, es', clock', rfl, F', ?_⟩
  have h1 : (es'.toList.map (rg P k Rv)).Perm (putKey (.int .i64 i) (.held v) ((es.toList.map (rg P k Rv)).foldr DataW.insert [])) := by
    rw [← hput]; exact (WideShapes.sorted_perm _).symm
  have h2 : ∀ p ∈ ((es.toList.map (rg P k Rv)).foldr DataW.insert []), notKey (.int .i64 i) p = true := by
    intro p hpm
    have hpm2 := (hp.mem_iff.1 ((WideShapes.sorted_perm _).mem_iff.1 hpm))
    obtain ⟨⟨i', v'⟩, hm, rfl⟩ := List.mem_map.1 hpm2
    unfold notKey img Lit.sameKey
    have : i' ≠ i := by rintro rfl; exact hnew _ hm
    simp [this]
  refine h1.trans ?_
  unfold putKey
  rw [List.filter_eq_self.2 h2]
  refine (WideShapes.insert_perm _ _).trans ?_
  rw [List.map_append]
  refine List.Perm.trans (List.Perm.cons _ ((WideShapes.sorted_perm _).trans hp)) ?_
  exact (List.perm_append_singleton _ _).symm

theorem MapI.drop {ty : TypeId} (h : MapI P k o m) (K : Keyed P k) (ht : P.underlying t = some (.map k e)) (hb : w.heap[b]? = some o) {i : Int} (hkey : keyOf P k (.int .i64 i) = some (.int .i64 i)) :
    ∃ o', (Builtin.delete_ #[t, k] ty #[.map (some b), .int .i64 i]).run P w = .ok (.tuple #[]) (setBlock w b o') ∧ MapI P k o' (m.filter fun p => !(p.1 == i)) := by
  obtain ⟨es, clock, rfl, F, hp⟩ := h
  obtain ⟨es', hrun, F', _, hdel, _⟩ := Maps.fit_drop (ty := ty) K ht hb F hkey
  refine ⟨_, hrun, es', clock, rfl, F', ?_⟩
  have h1 : (es'.toList.map (rg P k Rv)).Perm (delKey (.int .i64 i) ((es.toList.map (rg P k Rv)).foldr DataW.insert [])) := by
    rw [← hdel]; exact (WideShapes.sorted_perm _).symm
  refine h1.trans ?_
  unfold delKey
  refine (((WideShapes.sorted_perm _).trans hp).filter _).trans ?_
  rw [List.filter_map]
  have : (notKey (.int .i64 i) ∘ img) = fun p : Int × Value => !(p.1 == i) := by
    funext p
    simp [notKey, img, Lit.sameKey]
    rw [Bool.eq_iff_iff]
    simp
  rw [this]

theorem MapI.len (h : MapI P k o m) (ht : P.underlying t = some (.map k e)) (hb : w.heap[b]? = some o) (ty : TypeId) : (Builtin.len_ #[t] ty #[.map (some b)]).run P w = .ok (.int .i64 (m.length : Int)) w := by
  obtain ⟨es, clock, rfl, F, hp⟩ := h
  simp [Builtin.len_, run_underlying ht, MapKept.run_getObj_map hb, goInt, Result.andThen, MapI.size hp]
end

end Go.Proofs.Ytpnnalkihcemhaa.Mem
