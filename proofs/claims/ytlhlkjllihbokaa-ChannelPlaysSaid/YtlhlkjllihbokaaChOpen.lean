/- A channel's numbers that are not acked; no channel; what a program that does nothing does not answer. -/
import Derived.Test.YtlhlkjllihbokaaChSend
set_option linter.unusedVariables false
set_option linter.unusedSimpArgs false
namespace Go.Proofs.Ytlhlkjllihbokaa.Chan
open Go.Sort Go.RowKit Go.Proofs.Ytlhlkjllihbokaa.Mem Go.Proofs.Ytlhlkjllihbokaa.Open Go.Proofs.Ytlhlkjllihbokaa.Num Go.Proofs.Ytlhlkjllihbokaa.Step Go.Proofs.Ytlhlkjllihbokaa.Ser

theorem clone16 (W : World) (B : Nat) (w : World) (F : List Ent) (v : Value) (n : Nat) (cs : List Value) (hH : Holds W B w F) (hr : Rd w v n cs) (hl : cs.length = n) (h1 : ∀ u, u ∈ cs → u.oneCell' = true) (hn : n ≤ 1000000000) :
    Calls Try.prog 39 #[v] w fun e' w' => ∃ v', e' = .returned v' ∧ Holds W B w' (.rw v' 22 1 n cs :: F) := by
  obtain ⟨i0, hi, hz0, hz1, hz2⟩ := info_parts info_u16
  rcases hr with ⟨rfl, rfl, rfl⟩ | ⟨ad, c, rfl, hc, hm, hr⟩
  · go_enter Try.func39, Try.ntmps39
    have hnil := Lib.run_eql_slice_nil (P := Try.prog) (t := 27)
    go_wp2
    go_ret
    exact ⟨_, rfl, hH.nilrow _ _⟩
  · go_enter Try.func39, Try.ntmps39
    have hnil := Lib.run_eql_slice_nil (P := Try.prog) (t := 27)
    have h0 := hH.mkrow [] 22 1 0 rfl (Nat.zero_le _)
    have hr2 : ∀ j u, cs[j]? = some u → (w.alloc (.cells #[] 22)).cell? (ad.add j) = some u := fun j u hu => by
      rw [World.cell?_alloc_lt _ _ _ (World.block_lt_of_cell? w _ (hr j u hu))]; exact hr j u hu
    have H0 := Lib.hid h0
    have HR := Lib.hid hr2
    clear h0 hr2 hr
    go_wp2_with (at_builtin; refine wpList_append_own_at _ rfl (.tmp 5) (.tmp 6) 27 rfl B 22 i0 (.int .u16 0) 1 2 Try.underlying27 hi hz0 hz1 hz2 rfl (by decide) _ _ _ rfl H0.out.own ad n c cs rfl (by simpa using hl) HR.out h1 ?c3 ?c4 ?c5 ?_)
    case c3 => unfold maxLen; omega
    case c4 => omega
    case c5 => have := H0.out.size; exact this
    intro v' w1 ho hg _ hat
    have h2 := H0.out.grew ho hg (hat.imp id (fun h => ⟨_, h, by simp⟩))
    try simp only [Nat.zero_add, List.nil_append] at h2
    clear ho hg hat
    go_wp2
    go_ret
    exact ⟨_, rfl, h2⟩

set_option maxHeartbeats 1000000 in
theorem copen (W : World) (B : Nat) (w : World) (b : Nat) (next : Int) (x : Win) (op : List Int) (F : List Ent) (hop : op.length ≤ 64) (hH : ChS W B w b next x op F) :
    Calls Try.prog 21 #[.pointer (some ⟨b, 0, none⟩)] w fun e' w' => ∃ v', e' = .returned v' ∧ ChS W B w' b next x op (.rw v' 22 1 op.length (u16s op) :: F) := by
  obtain ⟨v, hH⟩ := hH
  obtain ⟨A, c, rfl⟩ := hH.up1.slice
  have c4 := hH.cell 4 (v := .slice A op.length c) rfl
  have hc := clone16 W B w _ (.slice A op.length c) op.length (u16s op) hH hH.up1.rd (u16s_len op) (u16s_one op) (by omega)
  have HC := Lib.hid hc
  clear hc hH
  go_enter Try.func21, Try.ntmps21
  go_wp2_with fail
  refine HC.out.mono ?_
  rintro e' w1 ⟨v', rfl, h1⟩
  obtain ⟨A', c', rfl⟩ := h1.slice
  have H1 := Lib.hid h1
  clear h1 HC c4
  go_wp2_with fail
  go_ret
  exact ⟨_, rfl, .slice A op.length c, H1.out.up2.up2⟩

theorem cempty {W w : World} {B : Nat} {F : List Ent} (hH : Holds W B w F) : ChS W B (w.alloc (.cells #[.int .u16 0, .bool false, .int .u16 0, .int .u32 0, .slice none 0 0] 43)) w.heap.size 0 ⟨false, 0, 0⟩ [] F :=
  ⟨.slice none 0 0, ((hH.alloc [.int .u16 0, .bool false, .int .u16 0, .int .u32 0, .slice none 0 0] 43).nilrow 22 1).up1⟩

theorem field_number (w : World) (n any ack mask : Value) : (Instr.field 56 (.agg #[n, any, ack, mask]) 0).run Try.prog w = .ok n w := by kernel_rfl
theorem field_any (w : World) (any last mask : Value) : (Instr.field 30 (.agg #[any, last, mask]) 0).run Try.prog w = .ok any w := by kernel_rfl

set_option maxRecDepth 100000 in
set_option maxHeartbeats 1000000 in
theorem awake14 (w : World) : Calls Try.prog 18 #[] w fun e' w' => e' = .returned (.bool true) ∧ Below w.heap.size w w' := by
  have h0 := cempty (Holds.start w)
  have hs := csend w w.heap.size _ _ 0 ⟨false, 0, 0⟩ [] [] (by decide) (by decide) (by decide) h0
  have HS := Lib.hid hs
  have hfn := field_number
  clear h0 hs
  go_enter Try.func18, Try.ntmps18
  go_wp2_with fail
  refine HS.out.mono ?_
  rintro e' w1 ⟨rfl, h1⟩
  rw [show nextO [] 0 = [0] from rfl, show ((0 : Int) + 1) % 65536 = 1 from rfl] at h1
  have ho := copen w w.heap.size w1 _ _ _ _ _ (by decide) h1
  have HO := Lib.hid ho
  clear h1 ho HS
  go_wp2_with fail
  refine HO.out.mono ?_
  rintro e' w2 ⟨v2, rfl, h2⟩
  obtain ⟨A2, c2, rfl⟩ : ∃ A2 c2, v2 = .slice A2 1 c2 := by
    obtain ⟨_, h⟩ := h2
    obtain ⟨A2, c2, h⟩ := h.up2.slice
    exact ⟨A2, c2, h⟩
  have hs := csend w w.heap.size w2 _ _ _ _ _ (by decide) (by decide) (by decide) h2
  have HS2 := Lib.hid hs
  clear h2 hs HO
  go_wp2_with fail
  refine HS2.out.mono ?_
  rintro e' w3 ⟨rfl, _, h3⟩
  have H3 := Lib.hid h3
  clear h3 HS2
  go_wp2_with fail
  go_ret
  exact ⟨rfl, H3.out.below⟩

theorem send_nil (w : World) : Calls Try.prog 32 #[.pointer none] w fun e' w' => e' = .returned (.agg #[.int .u16 0, .bool false, .int .u16 0, .int .u32 0]) ∧ Below w.heap.size w w' := by
  have H1 := Lib.hid ((Holds.start w).alloc [.int .u16 0, .bool false, .int .u16 0, .int .u32 0] 56)
  go_enter Try.func32, Try.ntmps32
  go_wp2_with fail
  have hz := H1.out
  refine bodyPost_ret (results_cell_row rfl _ _ _ _ _ _ _ rfl hz.head.2 Try.underlying56 rfl (by kernel_rfl)) rfl ?_
  exact ⟨rfl, hz.below⟩
theorem open_nil (w : World) : Calls Try.prog 21 #[.pointer none] w fun e' w' => e' = .returned (.slice none 0 0) ∧ w = w' := by
  go_enter Try.func21, Try.ntmps21
  go_wp2_with fail
  go_ret
  exact ⟨rfl, rfl⟩
theorem window_nil (w : World) : Calls Try.prog 38 #[.pointer none] w fun e' w' => e' = .returned (.agg #[.bool false, .int .u16 0, .int .u32 0]) ∧ Below w.heap.size w w' := by
  have H1 := Lib.hid ((Holds.start w).alloc [.bool false, .int .u16 0, .int .u32 0] 30)
  go_enter Try.func38, Try.ntmps38
  go_wp2_with fail
  have hz := H1.out
  refine bodyPost_ret (results_cell_row rfl _ _ _ _ _ _ _ rfl hz.head.2 Try.underlying30 rfl (by kernel_rfl)) rfl ?_
  exact ⟨rfl, hz.below⟩
theorem take_nil (w : World) (n ack mask : Int) (any : Bool) : Calls Try.prog 34 #[.pointer none, .agg #[.int .u16 n, .bool any, .int .u16 ack, .int .u32 mask]] w fun e' w' => e' = .returned (.tuple #[.slice none 0 0, .int .i64 6]) ∧ Below w.heap.size w w' := by
  go_enter Try.func34, Try.ntmps34
  go_wp2_with fail
  exact bodyPost_ret (results_tmp2 rfl _ _ _) rfl ⟨rfl, (Below.refl _ _).alloc (Nat.le_refl _) _⟩

end Go.Proofs.Ytlhlkjllihbokaa.Chan
