/- The law ChannelCalm: between two channels of which nothing is lost, one behind the other's turn, all but the last datagram of each is acknowledged, whatever was before. For all scripts; no condition. Here: the walk. -/
import Derived.Test.YtlhlkjllihbokaaChannelTwo
set_option linter.unusedVariables false
set_option linter.unusedSimpArgs false
namespace Go.Proofs.Ytlhlkjllihbokaa.Chan
open Go.Sort Go.RowKit Go.Deep Go.WideShapes Go.ChangeShapes Go.Proofs.Ytlhlkjllihbokaa.Mem Go.Proofs.Ytlhlkjllihbokaa.Open Go.Proofs.Ytlhlkjllihbokaa.Num Go.Proofs.Ytlhlkjllihbokaa.Step Go.Proofs.Ytlhlkjllihbokaa.Ser Go.Proofs.YtlhlkjllihbokaaW.PrintWords

/-- Where the calm rounds stand, in memory. -/
def CalmSt (w0 : World) (e b e2 b2 a0 b0 g8 : Nat) (F : List Ent) (k : Nat) (wr : World) : Prop :=
  ∃ x y F', Calm a0 b0 k x y ∧ Two w0 w0.heap.size wr e b x e2 b2 y (F' ++ .st g8 [.int .i64 a0, .int .i64 b0] 53 :: F)

theorem calm_start {w0 wr : World} {e b e2 b2 : Nat} {x y : End} {F : List Ent} (hb : Both x y) (h : Two w0 w0.heap.size wr e b x e2 b2 y F) :
    CalmSt w0 e b e2 b2 x.sent.length y.sent.length wr.heap.size F 0 (wr.alloc (.cells #[.int .i64 x.sent.length, .int .i64 y.sent.length] 53)) := by
  obtain ⟨vo, vs, va, vc, vo2, vs2, va2, vc2, h⟩ := h
  have h2 := Holds.sel [_, _, _, _, _, _, _, _, _, _, _, _, _] (h.alloc [.int .i64 x.sent.length, .int .i64 y.sent.length] 53) [1, 2, 3, 4, 5, 6, 7, 8, 9, 10, 11, 12, 0] rfl
  simp only [pick, List.getElem?_cons_succ, List.getElem?_cons_zero, List.append_eq, List.cons_append, List.nil_append] at h2
  exact ⟨x, y, [], ⟨hb, rfl, rfl, fun k h1 h2 => by omega, fun k h1 h2 => by omega, fun h => absurd h (by decide)⟩, vo, vs, va, vc, vo2, vs2, va2, vc2, h2⟩

theorem Two.drew {W w : World} {B e b e2 b2 : Nat} {x y : End} {F : List Ent} (h : Two W B w e b x e2 b2 y F) : Two W B w.drew e b x e2 b2 y F := h.same (Below.drew (Below.refl _ _))
theorem cell_alloc {w : World} {a : Addr} {u : Value} {o : Obj} (h : w.cell? a = some u) : (w.alloc o).cell? a = some u := by
  rw [World.cell?_alloc_lt _ _ _ (World.block_lt_of_cell? w a h)]; exact h

theorem rounds {n : Int} (h0 : 0 ≤ n) (h1 : n < 256) : ∃ R T : Nat, n.tmod 20 = (R : Int) ∧ IntKind.i64.wrap (R : Int) = (R : Int) ∧ (3 : Int) + (R : Int) = (T : Int) ∧ IntKind.i64.wrap (T : Int) = (T : Int) ∧ 3 ≤ T ∧ T < 30 := by
  refine ⟨(n % 20).toNat, (3 + n % 20).toNat, ?_⟩
  rw [Int.tmod_eq_emod_of_nonneg h0, wrap_i64, wrap_i64]
  unfold wrap64
  omega
theorem r_small {T : Nat} (h : T < 30) {k : Nat} (hk : k < T) : (k : Int) < (T : Int) ∧ wrap64 ((k : Int) + 1) = (k : Int) + 1 ∧ IntKind.i64.wrap ((k : Int) + 1) = (k : Int) + 1 := by rw [wrap_i64]; unfold wrap64; omega
theorem last_of {a : Nat} (h : a ≤ 60000) : ((a + 1 : Nat) : Int) - 1 = (a : Int) ∧ IntKind.i64.wrap (a : Int) = (a : Int) := by
  rw [wrap_i64]; unfold wrap64; omega

theorem send_len (x : End) : x.send.sent.length = x.sent.length + 1 := by simp [End.send]
theorem calm_half {W w : World} {B e b e2 b2 : Nat} {x y : End} {F : List Ent} (h : Two W B w e b x.send e2 b2 y F) (hb : Both x y) (hx : x.sent.length < 1000) (hy : y.sent.length ≤ 1000) :
    Calls Try.prog 20 #[.pointer (some ⟨e2, 0, none⟩), .pointer (some ⟨e, 0, none⟩), .int .i64 (x.sent.length : Int)] w fun e' w' => e' = .returned (.bool true) ∧ ∃ F', Two W B w' e b (x.send.comes x.sent.length) e2 b2 (y.take x.next) (F' ++ F) := by
  refine (two_take _ h.swap (send_good hb).swap hy (by rw [send_len]; omega)).mono ?_
  rintro e' w' ⟨rfl, x', y', F', _, _, _, h, hh⟩
  have := hh x.sent.length (by rw [send_len]; omega) rfl (by rw [send_last]; exact (half hb hx).2)
  rw [send_last] at this
  obtain ⟨rfl, rfl⟩ := this
  exact ⟨rfl, F', h.swap⟩
theorem calm_sums {w0 wr : World} {e b e2 b2 a0 b0 g8 : Nat} {F : List Ent} {k : Nat} (h : CalmSt w0 e b e2 b2 a0 b0 g8 F k wr) (hk : 0 < k) :
    (∃ A c, wr.cell? ⟨e, 1, none⟩ = some (.slice A (a0 + k : Nat) c)) ∧ (∃ A c, wr.cell? ⟨e2, 1, none⟩ = some (.slice A (b0 + k : Nat) c)) ∧
    (∃ g c, wr.cell? ⟨e, 2, none⟩ = some (.slice (some ⟨g, 0, none⟩) (a0 + k : Nat) c) ∧ ∀ j, a0 ≤ j → j < a0 + k → wr.cell? ⟨g, j, none⟩ = some (.bool true)) ∧
    (∃ g c, wr.cell? ⟨e2, 2, none⟩ = some (.slice (some ⟨g, 0, none⟩) (b0 + k : Nat) c) ∧ ∀ j, b0 ≤ j → j + 1 < b0 + k → wr.cell? ⟨g, j, none⟩ = some (.bool true)) ∧
    wr.cell? ⟨g8, 0, none⟩ = some (.int .i64 a0) ∧ wr.cell? ⟨g8, 1, none⟩ = some (.int .i64 b0) ∧ Below w0.heap.size w0 wr := by
  obtain ⟨x, y, F', hc, h⟩ := h
  obtain ⟨A1, c1, p1⟩ := h.sent
  obtain ⟨A2, c2, p2⟩ := h.swap.sent
  obtain ⟨g3, c3, p3, q3⟩ := h.acks (by have := hc.lx; omega)
  obtain ⟨g4, c4, p4, q4⟩ := h.swap.acks (by have := hc.ly; omega)
  have hbel := h.below
  rw [hc.lx] at p1 p3 q3
  rw [hc.ly] at p2 p4 q4
  have hm : Ent.st g8 [.int .i64 a0, .int .i64 b0] 53 ∈ F' ++ .st g8 [.int .i64 a0, .int .i64 b0] 53 :: F := by simp
  obtain ⟨vo, vs, va, vc, vo2, vs2, va2, vc2, h⟩ := h
  have h8 := h.each _ (List.mem_cons_of_mem _ (List.mem_cons_of_mem _ (List.mem_cons_of_mem _ (List.mem_cons_of_mem _ (List.mem_cons_of_mem _ (List.mem_cons_of_mem _ (List.mem_cons_of_mem _ (List.mem_cons_of_mem _ (List.mem_cons_of_mem _ (List.mem_cons_of_mem _ (List.mem_cons_of_mem _ (List.mem_cons_of_mem _ hm))))))))))))
  refine ⟨⟨A1, c1, p1⟩, ⟨A2, c2, p2⟩, ⟨g3, c3, p3, fun j h1 h2 => q3 j h2 (hc.ax j h1 h2)⟩, ⟨g4, c4, p4, fun j h1 h2 => q4 j (by omega) (hc.ay j h1 h2)⟩, ?_, ?_, hbel⟩
  · rw [cell_of_row wr g8 0 _ _ (0, 0) h8.2]; rfl
  · rw [cell_of_row wr g8 1 _ _ (0, 0) h8.2]; rfl
theorem mn_facts {a0 b0 k : Nat} (h1 : a0 ≤ 200) (h2 : b0 ≤ 200) (h3 : 3 ≤ k) (h4 : k < 30) : ∃ M N : Nat, a0 + k = M ∧ M ≤ 300 ∧ b0 + k = N + 1 ∧ N ≤ 300 ∧ a0 ≤ M ∧ b0 ≤ N ∧ IntKind.i64.wrap (N : Int) = (N : Int) := by
  refine ⟨a0 + k, b0 + k - 1, rfl, by omega, by omega, by omega, by omega, by omega, ?_⟩
  rw [wrap_i64]; unfold wrap64; omega
theorem kk {a j n : Nat} (h : j < n) (hn : n ≤ 300) : (0 : Int) ≤ (j : Int) ∧ (j : Int) < (n : Int) ∧ wrap64 ((j : Int) + 1) = (j : Int) + 1 ∧ IntKind.i64.wrap ((j : Int) + 1) = (j : Int) + 1 := by rw [wrap_i64]; unfold wrap64; omega

set_option maxRecDepth 100000 in
set_option maxHeartbeats 4000000 in
theorem channelCalm_core (w : World) (v : Value) (ops : List POp) (n : Int) (hn0 : 0 ≤ n) (hn1 : n < 256) (hv : RdL w v 2 (ops.map POp.cells)) :
    Calls Try.prog 8 #[v, .int .u8 n] w fun e' w' => e' = .returned (.bool true) ∧ Below w.heap.size w w' := by
  obtain ⟨A, c, rfl, hc, hm, hr⟩ := pops_at hv
  have HR := Lib.hid hr
  clear hr hm hc hv
  by_cases hbig : 200 < ops.length
  · have tb : decide ((200 : Int) < (ops.length : Int)) = true := by simp; omega
    clear hbig
    go_enter Try.func8, Try.ntmps8
    go_wp2_with fail
    refine (awake14 _).mono ?_
    rintro e' w1 ⟨rfl, h1⟩
    go_wp2_with fail
    refine (awake14 _).mono ?_
    rintro e' w2 ⟨rfl, h2⟩
    go_wp2_with fail
    go_ret
    exact ⟨rfl, h1.trans (h2.mono h1.size)⟩
  · have tb : decide ((200 : Int) < (ops.length : Int)) = false := by simp; omega
    have hl : ops.length ≤ 1000 := by omega
    have hl3 : ops.length ≤ 200 := by omega
    have HL := Lib.hid hl
    have HL3 := Lib.hid hl3
    have HN := Lib.hid (And.intro hn0 hn1)
    clear hbig hl hl3
    go_enter Try.func8, Try.ntmps8
    go_wp2_with fail
    refine (awake14 _).mono ?_
    rintro e' w1 ⟨rfl, h1⟩
    have HS := Lib.hid (li_start w w1 h1)
    clear h1
    go_wp2_with fail
    go_loopw [7] (fun i wr => ∃ k : Nat, k ≤ ops.length ∧ i = .int .i64 k ∧ Hid (LI w (w1.heap.size + 1) w1.heap.size (w1.heap.size + 3) (w1.heap.size + 2) k wr)) (fun i _ => ops.length - (intOf i).toNat)
    case atStart => exact ⟨0, Nat.zero_le _, rfl, HS⟩
    case round =>
      obtain ⟨k, hk, rfl, HC⟩ := hrel
      clear HS
      by_cases hkn : k < ops.length
      · obtain ⟨k0, k1, k2, k3⟩ := k_facts hkn HL.out
        have hk4 : k ≤ 400 := Nat.le_trans (Nat.le_of_lt hkn) (Nat.le_trans HL3.out (by decide))
        have hk40 := Lib.hid hk4
        obtain ⟨bs, off, rfl, hlt, d0, d1⟩ := HR.out k ops[k] (List.getElem?_eq_getElem hkn)
        have hbl := HC.out.below
        have c0 : wr.cell? ⟨bs, off + k * 2, none⟩ = some (.int .i64 ops[k].kind) := by rw [hbl.cell (p := ⟨bs, off + k * 2, none⟩) hlt]; exact d0
        have c1 : wr.cell? ⟨bs, off + k * 2 + 1, none⟩ = some (.int .i64 ops[k].n) := by rw [hbl.cell (p := ⟨bs, off + k * 2 + 1, none⟩) hlt]; exact d1
        obtain ⟨⟨kd, z⟩, ho⟩ : ∃ o, ops[k] = o := ⟨_, rfl⟩
        rw [ho] at c0 c1
        dsimp only at c0 c1
        have HKN := Lib.hid hkn
        clear ho hbl d0 d1 hk hk4 hkn hlt hn0 hn1
        by_cases q1 : kd = 1
        · subst q1
          go_wp2_with fail
          refine (li_send HC.out hk40.out).mono ?_
          rintro e' w4 ⟨rfl, h4⟩
          have H1 := Lib.hid h4
          clear h4 HC c0 c1
          go_wp2_with fail
          exact ⟨⟨k + 1, HKN.out, by go_num, H1⟩, down_one HKN.out⟩
        by_cases q2 : kd = 2
        · subst q2
          go_wp2_with fail
          refine (li_send HC.out.swap hk40.out).mono ?_
          rintro e' w4 ⟨rfl, h4⟩
          have H1 := Lib.hid h4.swap
          clear h4 HC c0 c1 q1
          go_wp2_with fail
          exact ⟨⟨k + 1, HKN.out, by go_num, H1⟩, down_one HKN.out⟩
        by_cases q3 : kd = 3
        · subst q3
          go_wp2_with fail
          refine (li_take z HC.out.swap hk40.out).mono ?_
          rintro e' w4 ⟨rfl, h4⟩
          have H1 := Lib.hid h4.swap
          clear h4 HC c0 c1 q1 q2
          go_wp2_with fail
          exact ⟨⟨k + 1, HKN.out, by go_num, H1⟩, down_one HKN.out⟩
        by_cases q4 : kd = 4
        · subst q4
          go_wp2_with fail
          refine (li_take z HC.out hk40.out).mono ?_
          rintro e' w4 ⟨rfl, h4⟩
          have H1 := Lib.hid h4
          clear h4 HC c0 c1 q1 q2 q3
          go_wp2_with fail
          exact ⟨⟨k + 1, HKN.out, by go_num, H1⟩, down_one HKN.out⟩
        · obtain ⟨r1, r2, r3, r4⟩ := kinds q1 q2 q3 q4
          have H1 := Lib.hid HC.out.next
          clear HC q1 q2 q3 q4
          go_wp2_with fail
          exact ⟨⟨k + 1, HKN.out, by go_num, H1⟩, down_one HKN.out⟩
      · obtain rfl : k = ops.length := Nat.le_antisymm hk (Nat.le_of_not_lt hkn)
        have k1 : ¬ (ops.length : Int) < (ops.length : Int) := Int.lt_irrefl _
        obtain ⟨x, y, F, hB, hx, hy, hT⟩ := HC.out
        have hla : x.sent.length ≤ 200 := Nat.le_trans hx HL3.out
        have hlb : y.sent.length ≤ 200 := Nat.le_trans hy HL3.out
        have H0 := Lib.hid (calm_start hB hT.drew)
        obtain ⟨A1, c1, p1⟩ := hT.sent
        obtain ⟨A2, c2, p2⟩ := hT.swap.sent
        obtain ⟨a0, ha⟩ : ∃ a0, x.sent.length = a0 := ⟨_, rfl⟩
        obtain ⟨b0, hb⟩ : ∃ b0, y.sent.length = b0 := ⟨_, rfl⟩
        rw [ha] at p1 H0 hla
        rw [hb] at p2 H0 hlb
        have hS1 : wr.drew.cell? ⟨w1.heap.size + 1, 1, none⟩ = some (.slice A1 a0 c1) ∧ wr.drew.cell? ⟨w1.heap.size + 3, 1, none⟩ = some (.slice A2 b0 c2) := ⟨p1, p2⟩
        have HLA := Lib.hid (And.intro hla hlb)
        clear hkn hk hB hx hy hT HC ha hb hla hlb
        go_wp2_with fail
        clear p1 p2
        refine Mix.region 12 (fun w' => w'.cell? ⟨w1.heap.size + 1, 1, none⟩ = some (.slice A1 a0 c1) ∧ w'.cell? ⟨w1.heap.size + 3, 1, none⟩ = some (.slice A2 b0 c2)) (by kernel_rfl) ?_
        simp only [List.size_toArray, List.length_cons, List.length_nil]
        refine Mix.at_take (i := 0) (v := ?_) rfl (by kernel_rfl) (by kernel_rfl) (by kernel_rfl) (by kernel_rfl) (by kernel_rfl) (by kernel_rfl) (by kernel_rfl) (fun _ _ _ h => h) (Or.inl ⟨by rfl, ?_⟩) hS1 ?_
        rotate_left
        · intro w hSw
          (try dsimp only at hSw)
          go_simp
          try (with_reducible rfl)
        simp only [Act.put, List.setIfInBounds_toArray, List.set_cons_zero, List.set_cons_succ]
        refine Mix.at_take (i := 1) (v := ?_) rfl (by kernel_rfl) (by kernel_rfl) (by kernel_rfl) (by kernel_rfl) (by kernel_rfl) (by kernel_rfl) (by kernel_rfl) (fun _ _ _ h => h) (Or.inl ⟨by rfl, ?_⟩) hS1 ?_
        rotate_left
        · intro w hSw
          (try dsimp only at hSw)
          go_simp
          try (with_reducible rfl)
        simp only [Act.put, List.setIfInBounds_toArray, List.set_cons_zero, List.set_cons_succ]
        refine Mix.at_take (i := 2) (v := ?_) rfl (by kernel_rfl) (by kernel_rfl) (by kernel_rfl) (by kernel_rfl) (by kernel_rfl) (by kernel_rfl) (by kernel_rfl) (fun _ _ _ h => h) (Or.inl ⟨by rfl, ?_⟩) hS1 ?_
        rotate_left
        · intro w hSw
          (try dsimp only at hSw)
          go_simp
          try (with_reducible rfl)
        simp only [Act.put, List.setIfInBounds_toArray, List.set_cons_zero, List.set_cons_succ]
        refine Mix.at_take (i := 3) (v := ?_) rfl (by kernel_rfl) (by kernel_rfl) (by kernel_rfl) (by kernel_rfl) (by kernel_rfl) (by kernel_rfl) (by kernel_rfl) (fun _ _ _ h => h) (Or.inl ⟨by rfl, ?_⟩) hS1 ?_
        rotate_left
        · intro w hSw
          (try dsimp only at hSw)
          go_simp
          try (with_reducible rfl)
        simp only [Act.put, List.setIfInBounds_toArray, List.set_cons_zero, List.set_cons_succ]
        refine Mix.at_take (i := 4) (v := ?_) rfl (by kernel_rfl) (by kernel_rfl) (by kernel_rfl) (by kernel_rfl) (by kernel_rfl) (by kernel_rfl) (by kernel_rfl) (fun _ _ _ h => h) (Or.inl ⟨by rfl, ?_⟩) hS1 ?_
        rotate_left
        · intro w hSw
          (try dsimp only at hSw)
          go_simp
          try (with_reducible rfl)
        simp only [Act.put, List.setIfInBounds_toArray, List.set_cons_zero, List.set_cons_succ]
        refine Mix.at_take (i := 5) (v := ?_) rfl (by kernel_rfl) (by kernel_rfl) (by kernel_rfl) (by kernel_rfl) (by kernel_rfl) (by kernel_rfl) (by kernel_rfl) (fun _ _ _ h => h) (Or.inl ⟨by rfl, ?_⟩) hS1 ?_
        rotate_left
        · intro w hSw
          (try dsimp only at hSw)
          go_simp
          try (with_reducible rfl)
        simp only [Act.put, List.setIfInBounds_toArray, List.set_cons_zero, List.set_cons_succ]
        refine Mix.at_take (i := 6) (v := ?_) rfl (by kernel_rfl) (by kernel_rfl) (by kernel_rfl) (by kernel_rfl) (by kernel_rfl) (by kernel_rfl) (by kernel_rfl) (fun _ _ _ h => h) (Or.inl ⟨by rfl, ?_⟩) hS1 ?_
        rotate_left
        · intro w hSw
          (try dsimp only at hSw)
          go_simp
          try (with_reducible rfl)
        simp only [Act.put, List.setIfInBounds_toArray, List.set_cons_zero, List.set_cons_succ]
        refine Mix.at_take (i := 7) (v := ?_) rfl (by kernel_rfl) (by kernel_rfl) (by kernel_rfl) (by kernel_rfl) (by kernel_rfl) (by kernel_rfl) (by kernel_rfl) (fun _ _ _ h => h) (Or.inl ⟨by rfl, ?_⟩) hS1 ?_
        rotate_left
        · intro w hSw
          (try dsimp only at hSw)
          go_simp
          try (with_reducible rfl)
        simp only [Act.put, List.setIfInBounds_toArray, List.set_cons_zero, List.set_cons_succ]
        refine Mix.at_take (i := 8) (v := ?_) rfl (by kernel_rfl) (by kernel_rfl) (by kernel_rfl) (by kernel_rfl) (by kernel_rfl) (by kernel_rfl) (by kernel_rfl) (fun _ _ _ h => h) (Or.inl ⟨by rfl, ?_⟩) hS1 ?_
        rotate_left
        · intro w hSw
          (try dsimp only at hSw)
          go_simp
          try (with_reducible rfl)
        simp only [Act.put, List.setIfInBounds_toArray, List.set_cons_zero, List.set_cons_succ]
        refine Mix.at_take (i := 9) (v := ?_) rfl (by kernel_rfl) (by kernel_rfl) (by kernel_rfl) (by kernel_rfl) (by kernel_rfl) (by kernel_rfl) (by kernel_rfl) (fun _ _ _ h => h) (Or.inl ⟨by rfl, ?_⟩) hS1 ?_
        rotate_left
        · intro w hSw
          (try dsimp only at hSw)
          go_simp
          try (with_reducible rfl)
        simp only [Act.put, List.setIfInBounds_toArray, List.set_cons_zero, List.set_cons_succ]
        refine Mix.at_take (i := 10) (v := ?_) rfl (by kernel_rfl) (by kernel_rfl) (by kernel_rfl) (by kernel_rfl) (by kernel_rfl) (by kernel_rfl) (by kernel_rfl) (fun _ _ _ h => h) (Or.inl ⟨by rfl, ?_⟩) hS1 ?_
        rotate_left
        · intro w hSw
          (try dsimp only at hSw)
          go_simp
          try (with_reducible rfl)
        simp only [Act.put, List.setIfInBounds_toArray, List.set_cons_zero, List.set_cons_succ]
        refine Mix.at_step (i := 11) rfl (by kernel_rfl) (by kernel_rfl) (by rfl) ?_
        unfold Oper.wp
        go_simp
        refine ⟨⟨cell_alloc hS1.1, cell_alloc hS1.2⟩, ?_⟩
        refine Mix.at_tail _ rfl rfl (by kernel_rfl) ?_
        simp only [List.drop_succ_cons, List.drop_zero]
        clear hS1
        go_wp2_with fail
        obtain ⟨R, T, hR, hR2, hT, hT2, hT3, hT30⟩ := rounds HN.out.1 HN.out.2
        have HT := Lib.hid (And.intro hT3 hT30)
        clear hT3 hT30 hn0 hn1
        obtain ⟨g8, hg8⟩ : ∃ g8, wr.heap.size = g8 := ⟨_, rfl⟩
        rw [show wr.drew.heap.size = wr.heap.size from rfl, hg8] at H0
        rw [hg8]
        clear hg8
        go_loopw [9] (fun i wz => ∃ k : Nat, k ≤ T ∧ i = .int .i64 k ∧ Hid (CalmSt w (w1.heap.size + 1) w1.heap.size (w1.heap.size + 3) (w1.heap.size + 2) a0 b0 g8 F k wz)) (fun i _ => T - (intOf i).toNat)
        case atStart => exact ⟨0, Nat.zero_le _, rfl, H0⟩
        case round =>
          obtain ⟨k, hk, rfl, HC⟩ := hrel
          clear H0
          by_cases hkn : k < T
          · obtain ⟨k1, k2, k3⟩ := r_small HT.out.2 hkn
            obtain ⟨x, y, F', hc, hTw⟩ := HC.out
            have hx2 : x.sent.length ≤ 300 := by have := hc.lx; have := HLA.out.1; have := HT.out.2; omega
            have hy2 : y.sent.length ≤ 300 := by have := hc.ly; have := HLA.out.2; have := HT.out.2; omega
            have HX := Lib.hid (And.intro hx2 hy2)
            have hs := calm_next hc (by have := HLA.out.1; have := HT.out.2; omega) (by have := HLA.out.2; have := HT.out.2; omega)
            have HCN := Lib.hid hs
            have hb0 := hc.both
            have hb1 := (half hb0 (by omega)).1
            have HB0 := Lib.hid hb0
            have HB1 := Lib.hid hb1
            have HTW := Lib.hid hTw
            have HKN := Lib.hid hkn
            obtain ⟨xn, hxn⟩ : ∃ xn, x.sent.length = xn := ⟨_, rfl⟩
            obtain ⟨yn, hyn⟩ : ∃ yn, (y.take x.next).sent.length = yn := ⟨_, rfl⟩
            have HXN := Lib.hid (And.intro hxn hyn)
            obtain ⟨_, l1⟩ := last_of (show xn ≤ 60000 by omega)
            obtain ⟨_, l2⟩ := last_of (show yn ≤ 60000 by rw [← hyn]; exact Nat.le_trans hy2 (by decide))
            clear HC hc hTw hx2 hy2 hk hkn hs hb0 hb1 hxn hyn
            go_wp2_with fail
            refine (tsend _ _ _ _ _ _ _ x y _ (Nat.le_trans HX.out.1 (by decide)) HB0.out.1.opl HTW.out).mono ?_
            rintro e' w4 ⟨rfl, h4⟩
            obtain ⟨A4, c4, p4⟩ := h4.sent
            rw [send_len, HXN.out.1] at p4
            have H4 := Lib.hid h4
            clear h4 HTW
            go_wp2_with fail
            have hq := calm_half H4.out HB0.out (Nat.lt_of_le_of_lt HX.out.1 (by decide)) (Nat.le_trans HX.out.2 (by decide))
            rw [HXN.out.1] at hq
            refine hq.mono ?_
            rintro e' w5 ⟨rfl, F5, h5⟩
            have H5 := Lib.hid h5.swap
            clear hq h5 H4 p4
            go_wp2_with fail
            refine (tsend _ _ _ _ _ _ _ (y.take x.next) _ _ (Nat.le_trans HX.out.2 (by decide)) HB1.out.2.opl H5.out).mono ?_
            rintro e' w6 ⟨rfl, h6⟩
            obtain ⟨A6, c6, p6⟩ := h6.sent
            rw [send_len, HXN.out.2] at p6
            have H6 := Lib.hid h6
            clear h6 H5
            go_wp2_with fail
            have hq := calm_half H6.out (by rw [← HXN.out.1]; exact HB1.out.swap) (by rw [HXN.out.2]; rw [← HXN.out.2]; exact Nat.lt_of_le_of_lt HX.out.2 (by decide)) (by rw [show (x.send.comes xn).sent.length = x.send.sent.length from rfl, send_len]; have := HX.out.1; omega)
            rw [HXN.out.2] at hq
            refine hq.mono ?_
            rintro e' w7 ⟨rfl, F7, h7⟩
            have hcn := HCN.out
            rw [HXN.out.1, HXN.out.2] at hcn
            have H7 : Hid (CalmSt w (w1.heap.size + 1) w1.heap.size (w1.heap.size + 3) (w1.heap.size + 2) a0 b0 g8 F (k + 1) w7) := ⟨_, _, F7 ++ F5 ++ F', hcn, by
              have := h7.swap
              simp only [List.append_assoc] at this ⊢
              exact this⟩
            clear hq h7 H6 p6 hcn
            go_wp2_with fail
            exact ⟨⟨k + 1, HKN.out, by go_num, H7⟩, down_one HKN.out⟩
          · obtain rfl : k = T := Nat.le_antisymm hk (Nat.le_of_not_lt hkn)
            have k1 : ¬ (k : Int) < (k : Int) := Int.lt_irrefl _
            obtain ⟨⟨A1, c1, p1⟩, ⟨A2, c2, p2⟩, ⟨g3, c3, p3, q3⟩, ⟨g4, c4, p4, q4⟩, p5, p6, hbel⟩ := calm_sums HC.out (Nat.lt_of_lt_of_le (by decide) HT.out.1)
            obtain ⟨M, N, hM, hM2, hN, hN2, hle1, hle2, l2⟩ := mn_facts HLA.out.1 HLA.out.2 HT.out.1 HT.out.2
            rw [hM] at p1 p3 q3
            rw [hN] at p2 p4 q4
            have HLE := Lib.hid (And.intro hle1 hle2)
            have HMN := Lib.hid (And.intro hM2 hN2)
            have Q3 := Lib.hid q3
            have Q4 := Lib.hid q4
            clear hM hM2 hN hN2 hle1 hle2 q3 q4 HC hk hkn
            go_wp2_with fail
            go_loop [10] (fun kv => ∃ j : Nat, Hid (a0 ≤ j) ∧ Hid (j ≤ M) ∧ kv = .int .i64 j) (fun kv => M - (intOf kv).toNat)
            case atStart => exact ⟨a0, Lib.hid (Nat.le_refl _), Lib.hid HLE.out.1, rfl⟩
            case round =>
              obtain ⟨j, HJ1, HJ2, rfl⟩ := hrel
              by_cases hj : j < M
              · obtain ⟨j0, j1, j2, j3⟩ := kk (a := 0) hj HMN.out.1
                have qj := Q3.out j HJ1.out hj
                have HJ := Lib.hid hj
                clear hj
                go_wp2_with fail
                exact ⟨⟨j + 1, Lib.hid (Nat.le_succ_of_le HJ1.out), Lib.hid HJ.out, by go_num⟩, down_one HJ.out⟩
              · obtain rfl : j = M := Nat.le_antisymm HJ2.out (Nat.le_of_not_lt hj)
                have j1 : ¬ (j : Int) < (j : Int) := Int.lt_irrefl _
                clear hj
                go_wp2_with fail
                go_loop [11] (fun kv => ∃ i : Nat, Hid (b0 ≤ i) ∧ Hid (i ≤ N) ∧ kv = .int .i64 i) (fun kv => N - (intOf kv).toNat)
                case atStart => exact ⟨b0, Lib.hid (Nat.le_refl _), Lib.hid HLE.out.2, rfl⟩
                case round =>
                  obtain ⟨i, HI1, HI2, rfl⟩ := hrel
                  by_cases hi : i < N
                  · obtain ⟨j0, j1, j2, j3⟩ := kk (a := 0) hi HMN.out.2
                    have qi := Q4.out i HI1.out (Nat.succ_lt_succ hi)
                    have j4 : (i : Int) < (N : Int) + 1 := Int.lt_add_one_of_le (Int.ofNat_le.2 (Nat.le_of_lt hi))
                    have HI := Lib.hid hi
                    clear hi
                    go_wp2_with fail
                    exact ⟨⟨i + 1, Lib.hid (Nat.le_succ_of_le HI1.out), Lib.hid HI.out, by go_num⟩, down_one HI.out⟩
                  · obtain rfl : i = N := Nat.le_antisymm HI2.out (Nat.le_of_not_lt hi)
                    have j1 : ¬ (i : Int) < (i : Int) := Int.lt_irrefl _
                    clear hi
                    go_wp2_with fail
                    go_ret
                    exact ⟨rfl, hbel⟩

set_option maxRecDepth 100000 in
theorem channelCalm (w : World) {H : Type} {enc : TypeId × Value → H} {base base' : Nat} {sp : Nat → Bool} {held : Bool} {d : DataW H} {ps : List MemPlace} {r : Reach} (v : Value)
    (hok : Value.okWide Try.prog w r base' 39 v) (h : DataW.Trod enc Try.prog w base sp held 39 v d ps) (n : Int) (wf : (Lit.int .u8 n).wf = true) :
    Calls Try.prog 8 #[v, .int .u8 n] w fun e' w' => e' = .returned (.bool true) ∧ Below w.heap.size w w' := by
  obtain ⟨l, hv⟩ := open_pops hok h
  simp [Lit.wf, IntKind.min, IntKind.max, IntKind.signed, IntKind.bits] at wf
  exact channelCalm_core w v l n (by omega) (by omega) hv

end Go.Proofs.Ytlhlkjllihbokaa.Chan
