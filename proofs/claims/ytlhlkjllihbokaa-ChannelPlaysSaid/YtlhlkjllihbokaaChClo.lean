/- The closure of Channel.Take: whether a number is in the window; if so it is laid to what was got. -/
import Derived.Test.YtlhlkjllihbokaaChOpen
set_option linter.unusedVariables false
set_option linter.unusedSimpArgs false
namespace Go.Proofs.Ytlhlkjllihbokaa.Chan
open Go.Sort Go.RowKit Go.Proofs.Ytlhlkjllihbokaa.Mem Go.Proofs.Ytlhlkjllihbokaa.Open Go.Proofs.Ytlhlkjllihbokaa.Num Go.Proofs.Ytlhlkjllihbokaa.Step Go.Proofs.Ytlhlkjllihbokaa.Ser Go.Proofs.YtlhlkjllihbokaaW.PrintWords

/-- What has been got behind one number. -/
def laid (b : Bool) (got : List Int) (x : Int) : List Int := if b then got ++ [x] else got

set_option maxRecDepth 100000 in
set_option maxHeartbeats 1000000 in
theorem cclo (W : World) (B : Nat) (w : World) (gw gg : Nat) (wi : Win) (got : List Int) (vg : Value) (x : Int) (F : List Ent) (hm0 : 0 ≤ wi.mask) (hm1 : wi.mask < 4294967296) (hl : got.length ≤ 1000)
    (hH : Holds W B w (.st gw wi.cells 30 :: .st gg [vg] 27 :: .rw vg 22 1 got.length (u16s got) :: F)) :
    Calls Try.prog 49 #[.int .u16 x, .pointer (some ⟨gw, 0, none⟩), .pointer (some ⟨gg, 0, none⟩)] w fun e' w' => e' = .returned (.bool (hasW wi x)) ∧
      ∃ vg', Holds W B w' (.st gw wi.cells 30 :: .st gg [vg'] 27 :: .rw vg' 22 1 (laid (hasW wi x) got x).length (u16s (laid (hasW wi x) got x)) :: F) := by
  obtain ⟨any, last, mask⟩ := wi
  obtain ⟨i0, hi, hz0, hz1, hz2⟩ := info_parts info_u16
  obtain ⟨A, c, rfl⟩ := hH.up2.slice
  have e0 := hH.cell 0 (v := .bool any) rfl
  have e1 := hH.cell 1 (v := .int .u16 last) rfl
  have e2 := hH.cell 2 (v := .int .u32 mask) rfl
  have hp := phas w any last mask x hm0 hm1
  have HP := Lib.hid hp
  have HH := Lib.hid hH
  have HL := Lib.hid hl
  clear hH hm0 hm1 hp hl
  go_enter Try.func49, Try.ntmps49
  go_wp2_with fail
  refine HP.out.mono ?_
  rintro e' w1 ⟨rfl, hb⟩
  have h1 := hbelowed' HH.out hb
  clear hb HH HP e0 e1 e2
  cases hh : hasW ⟨any, last, mask⟩ x with
  | false =>
    have H1 := Lib.hid h1
    clear h1
    go_wp2_with fail
    go_ret
    refine ⟨by rw [hh]; rfl, .slice A got.length c, ?_⟩
    rw [hh]
    exact H1.out
  | true =>
    have f0 := h1.up1.cell 0 rfl
    have h2 := (h1.up2).alloc' (.cells #[.int .u16 x] 22)
    have H2 := Lib.hid h2
    clear h1 h2
    go_wp2_with (at_builtin; refine wpList_append_one rfl _ _ _ rfl 22 i0 _ 1 2 Try.underlying27 hi hz0 hz1 hz2 rfl (by decide) rfl H2.out [.int .u16 x] rfl rfl ?c1 ?c2 ?c3 ?c4 ?_)
    case c1 => intro j' u hu; refine cell_one_at rfl ?_; simpa using hu
    case c2 => intro u hu; simp at hu; rw [hu]; rfl
    case c3 => exact Nat.le_trans (Nat.succ_le_succ HL.out) (by decide)
    case c4 => decide
    intro v3 w3 h3
    obtain ⟨A3, c3, rfl⟩ := h3.slice
    have h4 := h3.up2
    have d0 := h4.cell 0 rfl
    have dz := h4.frozen 0
    have h5 := h4.set 0 (.slice A3 (got.length + 1 : Nat) c3)
    simp only [List.set] at h5
    have H5 := Lib.hid h5
    clear h3 h4 h5 H2 f0
    go_wp2_with fail
    go_ret
    refine ⟨by rw [hh]; rfl, .slice A3 (got.length + 1 : Nat) c3, ?_⟩
    have := H5.out.up2
    rw [hh]
    rw [show laid true got x = got ++ [x] from rfl, List.length_append, List.length_singleton, show u16s (got ++ [x]) = u16s got ++ [Value.int .u16 x] by simp [u16s]]
    exact this

end Go.Proofs.Ytlhlkjllihbokaa.Chan
