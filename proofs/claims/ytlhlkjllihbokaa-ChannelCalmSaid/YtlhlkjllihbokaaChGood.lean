/- Two channels: what holds of both ends, whatever is sent and comes; plain. -/
import Derived.Test.YtlhlkjllihbokaaChTk
set_option linter.unusedVariables false
set_option linter.unusedSimpArgs false
namespace Go.Proofs.Ytlhlkjllihbokaa.Chan
open Go.RowKit Go.Proofs.Ytlhlkjllihbokaa.Ser

theorem inv_mask {N : Nat} {f : Int} {T : Nat → Bool} {w : Win} (h : Inv N f T w) : 0 ≤ w.mask ∧ w.mask < 4294967296 := by
  rcases h with ⟨_, _, h, _⟩ | ⟨_, m, _, _, _, _, h0, h1, _⟩
  · rw [h]; decide
  · exact ⟨h0, h1⟩

theorem has_sub {N : Nat} {T : Nat → Bool} {w : Win} (hN : N ≤ 1000) (h : Inv N 0 T w) (z : Int) (h0 : 0 ≤ z) (h1 : z < 65536) (hh : hasW w z = true) : T z.toNat = true := by
  rcases h with ⟨ha, _, _, _⟩ | ⟨ha, m, hm, hT, hl, hle, _, _, hb⟩
  · unfold hasW at hh; rw [ha] at hh; cases hh
  · have hl2 : w.last = m := by rw [hl, Int.zero_add]; omega
    unfold hasW at hh
    rw [ha, hl2, Bool.true_and] at hh
    unfold steps at hh
    by_cases hz : z ≤ m
    · by_cases hz2 : m - z < 32768
      · have e : (if (z - m) % 65536 < 32768 then (z - m) % 65536 else (z - m) % 65536 - 65536) = z - m := by split <;> omega
        rw [e] at hh
        by_cases h3 : z = m
        · rw [h3, Int.toNat_natCast]; exact hT
        · have e1 : decide (z - (m : Int) = 0) = false := decide_eq_false (by omega)
          rw [e1, Bool.false_or] at hh
          simp only [Bool.and_eq_true, decide_eq_true_eq] at hh
          obtain ⟨h4, h5, h6⟩ := hh
          rw [hb _ (by omega)] at h6
          simp only [Bool.and_eq_true, decide_eq_true_eq] at h6
          have : m - 1 - (-(z - (m : Int)) - 1).toNat = z.toNat := by omega
          rw [this] at h6
          exact h6.2
      · omega
    · by_cases hz2 : z - m < 32768
      · have e : (if (z - m) % 65536 < 32768 then (z - m) % 65536 else (z - m) % 65536 - 65536) = z - m := by split <;> omega
        rw [e] at hh
        simp only [Bool.or_eq_true, Bool.and_eq_true, decide_eq_true_eq] at hh
        omega
      · have e : (if (z - m) % 65536 < 32768 then (z - m) % 65536 else (z - m) % 65536 - 65536) = z - m - 65536 := by split <;> omega
        rw [e] at hh
        simp only [Bool.or_eq_true, Bool.and_eq_true, decide_eq_true_eq] at hh
        rcases hh with hh | ⟨h4, h5, h6⟩
        · omega
        · rw [hb _ (by omega)] at h6
          simp only [Bool.and_eq_true, decide_eq_true_eq] at h6
          omega

structure Good (x y : End) : Prop where
  la : x.acked.length = x.sent.length
  lc : x.came.length = x.sent.length
  num : ∀ j (h : j < x.sent.length), x.sent[j].n = j
  hm : ∀ j (h : j < x.sent.length), 0 ≤ x.sent[j].m ∧ x.sent[j].m < 4294967296
  nd : x.op.Nodup
  opl : x.op.length ≤ 64
  opb : ∀ z ∈ x.op, 0 ≤ z ∧ z < x.sent.length ∧ x.acked[z.toNat]? = some false
  win : Inv 1000 0 (fun j => x.came.getD j false) y.win
  acks : ∀ j (h : j < x.sent.length), ∀ z, 0 ≤ z → z < 65536 → hasW x.sent[j].win z = true → y.came[z.toNat]? = some true
def Both (x y : End) : Prop := Good x y ∧ Good y x
theorem Both.swap {x y : End} (h : Both x y) : Both y x := ⟨h.2, h.1⟩

def blank : End := ⟨⟨false, 0, 0⟩, [], [], [], []⟩
theorem both_blank : Both blank blank := by
  have : Good blank blank := ⟨rfl, rfl, fun j h => absurd h (by simp [blank]), fun j h => absurd h (by simp [blank]), by simp [blank], by decide, fun z h => by simp [blank] at h, .inl ⟨rfl, rfl, rfl, fun j => by simp [blank]⟩, fun j h => absurd h (by simp [blank])⟩
  exact ⟨this, this⟩

theorem getD_true {l : List Bool} {j : Nat} (h : l.getD j false = true) : l[j]? = some true := by
  rw [List.getD_eq_getElem?_getD] at h
  cases e : l[j]? with
  | none => rw [e] at h; cases h
  | some b => rw [e] at h; exact congrArg some h
theorem getD_snoc (l : List Bool) : (fun j => (l ++ [false]).getD j false) = fun j => l.getD j false := by
  funext j
  rw [List.getD_eq_getElem?_getD, List.getD_eq_getElem?_getD, List.getElem?_append]
  split
  · rfl
  · rename_i h
    rw [List.getElem?_eq_none (by omega : l.length ≤ j)]
    cases hj : j - l.length with
    | zero => rfl
    | succ k => simp
theorem getD_set {l : List Bool} {k : Nat} (h : k < l.length) : (fun j => (l.set k true).getD j false) = put (fun j => l.getD j false) k := by
  funext j
  show (l.set k true).getD j false = if j = k then true else l.getD j false
  rw [List.getD_eq_getElem?_getD, List.getD_eq_getElem?_getD, List.getElem?_set]
  by_cases e : k = j
  · subst e; simp [h]
  · rw [if_neg e, if_neg (fun h => e h.symm)]
theorem some_snoc {l : List Bool} {j : Nat} {b c : Bool} (h : l[j]? = some b) : (l ++ [c])[j]? = some b := by
  rw [List.getElem?_append_left (List.getElem?_eq_some_iff.1 h).1]; exact h
theorem some_set {l : List Bool} {j k : Nat} (h : l[j]? = some true) : (l.set k true)[j]? = some true := by
  rw [List.getElem?_set]
  split
  · rw [if_pos (by have := (List.getElem?_eq_some_iff.1 h).1; omega)]
  · exact h

theorem nextO_sub (op : List Int) (n : Int) : (nextO op n).Sublist (op ++ [n]) := by
  unfold nextO
  split
  · exact List.drop_sublist _ _
  · exact List.Sublist.refl _
theorem nextO_len (op : List Int) (n : Int) (h : op.length ≤ 64) : (nextO op n).length ≤ 64 := by
  unfold nextO
  split
  · rw [List.length_drop, List.length_append, List.length_singleton]; omega
  · omega
theorem nextO_mem (op : List Int) (n : Int) : n ∈ nextO op n := by
  unfold nextO
  split
  · rename_i h
    cases op with
    | nil => simp at h
    | cons a op => simp
  · simp

theorem send_good {x y : End} (h : Both x y) : Both x.send y := by
  obtain ⟨g, g2⟩ := h
  have hacks : ∀ z, 0 ≤ z → z < 65536 → hasW x.win z = true → y.came[z.toNat]? = some true := fun z h0 h1 hh => getD_true (has_sub (by decide) g2.win z h0 h1 hh)
  have hnot : ∀ z ∈ x.op, z ≠ (x.sent.length : Int) := fun z hz => by have := (g.opb z hz).2.1; omega
  refine ⟨⟨?_, ?_, ?_, ?_, ?_, ?_, ?_, ?_, ?_⟩, ⟨g2.la, g2.lc, g2.num, g2.hm, g2.nd, g2.opl, g2.opb, g2.win, ?_⟩⟩
  · simp [End.send, g.la]
  · simp [End.send, g.lc]
  · intro j hj
    simp only [End.send, List.length_append, List.length_singleton] at hj ⊢
    by_cases h1 : j < x.sent.length
    · rw [List.getElem_append_left h1]; exact g.num j h1
    · obtain rfl : j = x.sent.length := by omega
      rw [List.getElem_append_right (Nat.le_refl _)]
      simp [End.next]
  · intro j hj
    simp only [End.send, List.length_append, List.length_singleton] at hj ⊢
    by_cases h1 : j < x.sent.length
    · rw [List.getElem_append_left h1]; exact g.hm j h1
    · obtain rfl : j = x.sent.length := by omega
      rw [List.getElem_append_right (Nat.le_refl _)]
      simpa [End.next] using inv_mask g2.win
  · refine (nextO_sub _ _).nodup ?_
    rw [List.nodup_append]
    refine ⟨g.nd, by simp, fun a ha b hb => ?_⟩
    simp at hb
    rw [hb]
    exact hnot a ha
  · exact nextO_len _ _ g.opl
  · intro z hz
    have hz2 := (nextO_sub _ _).subset hz
    simp only [End.send, List.length_append, List.length_singleton]
    rcases List.mem_append.1 hz2 with h1 | h1
    · obtain ⟨a, b, c⟩ := g.opb z h1
      exact ⟨a, by omega, some_snoc c⟩
    · simp at h1
      subst h1
      refine ⟨by omega, by omega, ?_⟩
      rw [Int.toNat_natCast, ← g.la]
      simp
  · show Inv 1000 0 (fun j => (x.came ++ [false]).getD j false) y.win
    rw [getD_snoc]; exact g.win
  · intro j hj z h0 h1 hh
    simp only [End.send, List.length_append, List.length_singleton] at hj hh
    by_cases h3 : j < x.sent.length
    · rw [List.getElem_append_left h3] at hh; exact g.acks j h3 z h0 h1 hh
    · obtain rfl : j = x.sent.length := by omega
      rw [List.getElem_append_right (Nat.le_refl _)] at hh
      simp only [Nat.sub_self, List.getElem_cons_zero, End.next, Hd.win] at hh
      exact hacks z h0 h1 hh
  · intro j hj z h0 h1 hh
    exact some_snoc (g2.acks j hj z h0 h1 hh)

theorem ack_keep (l : List Int) (A : List Bool) (m : Nat) (h : A[m]? = some true) : (ackAll l A)[m]? = some true := by
  unfold ackAll
  induction l generalizing A with
  | nil => exact h
  | cons y l ih => rw [List.foldl_cons]; exact ih _ (some_set h)
theorem ack_in (l : List Int) (A : List Bool) (z : Int) (h : z ∈ l) (hz : z.toNat < A.length) : (ackAll l A)[z.toNat]? = some true := by
  induction l generalizing A with
  | nil => cases h
  | cons y l ih =>
    show (ackAll l (A.set y.toNat true))[z.toNat]? = some true
    rcases List.mem_cons.1 h with rfl | h
    · refine ack_keep _ _ _ ?_
      rw [List.getElem?_set_self hz]
    · exact ih _ h (by rw [List.length_set]; exact hz)

theorem take_good {x y : End} (hb : Both x y) (k : Nat) (hk : k < y.sent.length) (hl : y.sent.length ≤ 1000) (hok : (takeW x.win (y.sent[k]).n).2 = true) : Both (x.take y.sent[k]) (y.comes k) := by
  obtain ⟨g, g2⟩ := hb
  have hn := g2.num k hk
  have hkc : k < y.came.length := by rw [g2.lc]; exact hk
  obtain ⟨w', ok, hw⟩ : ∃ w' ok, takeW x.win (y.sent[k]).n = (w', ok) := ⟨_, _, rfl⟩
  have hok' : ok = true := by rw [hw] at hok; exact hok
  have e0 : ((0 : Int) + (k : Int)) % 65536 = (k : Int) := by omega
  have ti := take_inv (by decide) g2.win k (by omega) w' ok (by rw [e0, ← hn]; exact hw)
  have hwin : (x.take y.sent[k]).win = w' := by show (takeW x.win (y.sent[k]).n).1 = w'; rw [hw]
  refine ⟨⟨?_, g.lc, g.num, g.hm, g.nd.filter _, Nat.le_trans (List.length_filter_le _ _) g.opl, ?_, g.win, ?_⟩, ⟨g2.la, ?_, g2.num, g2.hm, g2.nd, g2.opl, g2.opb, ?_, g2.acks⟩⟩
  · show (ackAll _ _).length = _
    rw [ack_len]; exact g.la
  · intro z hz
    obtain ⟨hz1, hz2⟩ := List.mem_filter.1 hz
    obtain ⟨a, b, c⟩ := g.opb z hz1
    refine ⟨a, b, ?_⟩
    show (ackAll _ _)[z.toNat]? = _
    have ho := ack_other (x.got y.sent[k]) x.acked z.toNat ?_ (fun y hy => (g.opb y (List.mem_filter.1 hy).1).1)
    · rw [ho]; exact c
    · rw [Int.toNat_of_nonneg a]
      intro h1
      have := (List.mem_filter.1 h1).2
      rw [this] at hz2
      cases hz2
  · intro j hj z h0 h1 hh
    exact some_set (g.acks j hj z h0 h1 hh)
  · show (y.came.set k true).length = _
    rw [List.length_set]; exact g2.lc
  · rw [hwin]
    show Inv 1000 0 (fun j => (y.came.set k true).getD j false) w'
    rw [getD_set hkc]
    have := ti.2.2.2.2.1
    rw [if_pos hok'] at this
    exact this

theorem fine_of {x y : End} (hb : Both x y) (k : Nat) (hk : k < y.sent.length) (hl : y.sent.length ≤ 1000) (hl2 : x.sent.length ≤ 1000) : Fine x y k y.sent[k] := by
  obtain ⟨g, g2⟩ := hb
  have hn := g2.num k hk
  have hkc : k < y.came.length := by rw [g2.lc]; exact hk
  obtain ⟨w', ok, hw⟩ : ∃ w' ok, takeW x.win (y.sent[k]).n = (w', ok) := ⟨_, _, rfl⟩
  have e0 : ((0 : Int) + (k : Int)) % 65536 = (k : Int) := by omega
  have ti := take_inv (by decide) g2.win k (by omega) w' ok (by rw [e0, ← hn]; exact hw)
  refine ⟨hk, rfl, (g2.hm k hk).1, (g2.hm k hk).2, (inv_mask g2.win).1, (inv_mask g2.win).2, g.opl, by omega, by omega, fun h1 => ?_, g.nd, fun z hz => ?_⟩
  · rw [hw] at h1
    rw [List.getElem?_eq_getElem hkc]
    cases hc : y.came[k] with
    | false => rfl
    | true =>
      have := ti.1 (by rw [List.getD_eq_getElem?_getD, List.getElem?_eq_getElem hkc, hc]; rfl)
      rw [this] at h1
      cases h1
  · obtain ⟨hz1, hz2⟩ := List.mem_filter.1 hz
    obtain ⟨a, b, c⟩ := g.opb z hz1
    exact ⟨a, b, c, g2.acks k hk z a (by omega) hz2⟩

/-! A calm round. -/
theorem new_is_taken {x y : End} (hb : Both x y) (hl : x.sent.length < 1000) : (takeW y.win (x.sent.length : Int)).2 = true ∧ hasW (takeW y.win (x.sent.length : Int)).1 (x.sent.length : Int) = true := by
  obtain ⟨g, g2⟩ := hb
  obtain ⟨w', ok, hw⟩ : ∃ w' ok, takeW y.win (x.sent.length : Int) = (w', ok) := ⟨_, _, rfl⟩
  have e0 : ((0 : Int) + (x.sent.length : Int)) % 65536 = (x.sent.length : Int) := by omega
  have ti := take_inv (by decide) g.win x.sent.length hl w' ok (by rw [e0]; exact hw)
  have hok : ok = true := by
    have h2 := g.win
    rcases h2 with ⟨ha, _, _, _⟩ | ⟨ha, m, hm, hT, hlm, _⟩
    · unfold takeW at hw
      rw [if_pos ha] at hw
      exact (Prod.mk.inj hw).2.symm
    · have hT2 := (List.getElem?_eq_some_iff.1 (getD_true hT)).1
      rw [g.lc] at hT2
      unfold takeW at hw
      have hst : 0 < steps y.win.last (x.sent.length : Int) := by
        rw [hlm]; unfold steps; split <;> omega
      rw [if_neg (by rw [ha]; decide), if_pos hst] at hw
      exact (Prod.mk.inj hw).2.symm
  rw [hw]
  have := ti.2.2.1 hok
  rw [e0] at this
  exact ⟨hok, this⟩

/-- What a calm round makes of both: the first one sends, it comes; the second one sends, it comes. -/
def mid1 (x y : End) : End := x.send.comes x.sent.length
def mid2 (x y : End) : End := y.take x.next
theorem send_last (x : End) : x.send.sent[x.sent.length]'(by simp [End.send]) = x.next := by simp [End.send]

theorem half {x y : End} (hb : Both x y) (hl : x.sent.length < 1000) : Both (x.send.comes x.sent.length) (y.take x.next) ∧ (takeW y.win x.next.n).2 = true := by
  have h1 := send_good hb
  have h2 : (takeW y.win x.next.n).2 = true := (new_is_taken hb hl).1
  have h3 := take_good h1.swap x.sent.length (by simp [End.send]) (by simp [End.send]; omega) (by rw [send_last]; exact h2)
  rw [send_last] at h3
  exact ⟨h3.swap, h2⟩

/-- Where a calm round stands. -/
structure Calm (a b i : Nat) (x y : End) : Prop where
  both : Both x y
  lx : x.sent.length = a + i
  ly : y.sent.length = b + i
  ax : ∀ k, a ≤ k → k < a + i → x.acked[k]? = some true
  ay : ∀ k, b ≤ k → k + 1 < b + i → y.acked[k]? = some true
  last : 0 < i → ((b + i - 1 : Nat) : Int) ∈ y.op ∧ hasW x.win ((b + i - 1 : Nat) : Int) = true

theorem calm_next {a b i : Nat} {x y : End} (h : Calm a b i x y) (ha : a + i < 1000) (hb : b + i < 1000) :
    Calm a b (i + 1) ((x.send.comes x.sent.length).take (y.take x.next).next) ((y.take x.next).send.comes (y.take x.next).sent.length) := by
  obtain ⟨hB, lx, ly, ax, ay, hlast⟩ := h
  obtain ⟨h1, ok1⟩ := half hB (by omega)
  have hy2 : (y.take x.next).sent.length = b + i := ly
  obtain ⟨h2, ok2⟩ := half h1.swap (by rw [hy2]; omega)
  have hnew := (new_is_taken h1.swap (by rw [hy2]; omega)).2
  have hhas : hasW (y.take x.next).win (x.sent.length : Int) = true := by
    show hasW (takeW y.win x.next.n).1 _ = true
    exact (new_is_taken hB (by omega)).2
  have hmem : (x.sent.length : Int) ∈ (x.send.comes x.sent.length).op := nextO_mem _ _
  refine ⟨h2.swap, ?_, ?_, ?_, ?_, ?_⟩
  · show (x.sent ++ [x.next]).length = _
    rw [List.length_append, lx]; rfl
  · show ((y.take x.next).sent ++ [_]).length = _
    rw [List.length_append, hy2]; rfl
  · intro k h3 h4
    show (ackAll _ (x.acked ++ [false]))[k]? = some true
    by_cases h5 : k < a + i
    · exact ack_keep _ _ _ (some_snoc (ax k h3 h5))
    · obtain rfl : k = a + i := by omega
      have hg : (x.sent.length : Int) ∈ (x.send.comes x.sent.length).got (y.take x.next).next := List.mem_filter.2 ⟨hmem, hhas⟩
      have := ack_in _ (x.acked ++ [false]) _ hg (by rw [Int.toNat_natCast, List.length_append, hB.1.la]; simp)
      rw [Int.toNat_natCast, lx] at this
      exact this
  · intro k h3 h4
    show (ackAll _ y.acked ++ [false])[k]? = some true
    by_cases h5 : k + 1 < b + i
    · exact some_snoc (ack_keep _ _ _ (ay k h3 h5))
    · obtain rfl : k = b + i - 1 := by omega
      obtain ⟨h6, h7⟩ := hlast (by omega)
      refine some_snoc ?_
      have := ack_in (y.got x.next) y.acked _ (List.mem_filter.2 ⟨h6, h7⟩) (by rw [Int.toNat_natCast, hB.2.la]; omega)
      rw [Int.toNat_natCast] at this
      exact this
  · intro _
    rw [show b + (i + 1) - 1 = (y.take x.next).sent.length by rw [hy2]; omega]
    exact ⟨nextO_mem _ _, hnew⟩

end Go.Proofs.Ytlhlkjllihbokaa.Chan
