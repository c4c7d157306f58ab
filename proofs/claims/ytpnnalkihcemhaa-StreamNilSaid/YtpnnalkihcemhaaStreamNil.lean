/- The law StreamNil: no sender and no receiver do nothing. For all strings and numbers; no condition. Here: the walk. -/
import Derived.Test.YtpnnalkihcemhaaStr
import Derived.Test.YtpnnalkihcemhaaRd
import Derived.Laws.IdiomStrings
set_option linter.unusedVariables false
set_option linter.unusedSimpArgs false
namespace Go.Proofs.Ytpnnalkihcemhaa.Str
open Go.Sort Go.RowKit Go.Proofs.Ytpnnalkihcemhaa.Mem Go.Proofs.Ytpnnalkihcemhaa.Bits Go.Proofs.Ytpnnalkihcemhaa.Wr Go.Proofs.Ytpnnalkihcemhaa.Num Go.Proofs.Ytpnnalkihcemhaa.Step Go.Proofs.YtpnnalkihcemhaaW.PrintWords

/-- Reading of a string's bytes. -/
theorem nums_bytes (s : ByteArray) : ∃ bs : List Int, s.data.toList.map (fun b : UInt8 => Value.int .u8 b.toNat) = nums .u8 bs ∧ bs.length = s.size ∧ ∀ c, c ∈ bs → 0 ≤ c ∧ c < 256 := by
  refine ⟨s.data.toList.map fun b : UInt8 => (b.toNat : Int), by simp [nums, List.map_map, Function.comp], by simp, fun c hc => ?_⟩
  simp only [List.mem_map] at hc
  obtain ⟨b, _, rfl⟩ := hc
  have := b.toNat_lt
  omega

theorem rd_conv (w : World) (s : ByteArray) (hs : s.size ≤ maxLen) (e : TypeId) {bs : List Int} (hb : s.data.toList.map (fun b : UInt8 => Value.int .u8 b.toNat) = nums .u8 bs) (hl : bs.length = s.size) :
    Rd (w.drew.alloc (.cells (bytesRow s (grownCap w s.size 0 e)) e ((bytesRow s (grownCap w s.size 0 e)).size, (bytesRow s (grownCap w s.size 0 e)).size + 1))) (.slice (some ⟨w.heap.size, 0, none⟩) s.size (grownCap w s.size 0 e)) bs.length (nums .u8 bs) := by
  refine .inr ⟨⟨w.heap.size, 0, none⟩, _, by rw [hl], by rw [hl]; exact grownCap_ge w s.size 0 e, grownCap_le_maxLen w s.size 0 e hs, fun j u hu => ?_⟩
  have hlt : j < s.data.size := by
    have := (List.getElem?_eq_some_iff.1 hu).1
    rw [nums_length, hl] at this
    exact this
  rw [add_none', Nat.zero_add]
  refine (cell_of_row _ w.heap.size j _ _ _ (heap_alloc_new w.drew _)).trans ?_
  rw [bytesRow_at s _ j hlt]
  rw [← hb, List.getElem?_map] at hu
  simp at hu
  obtain ⟨a, ha, rfl⟩ := hu
  rw [Array.getElem?_eq_getElem hlt] at ha
  rw [Option.some.inj ha]

set_option maxHeartbeats 1000000 in
theorem streamNil_core (w : World) (s : ByteArray) (n : Int) (hs : s.size ≤ maxLen) :
    Calls Try.prog 12 #[.string s, .int .u32 n] w fun e' w' => e' = .returned (.bool true) ∧ Below w.heap.size w w' := by
  by_cases hbig : 1000 < s.size
  · have tb : decide ((1000 : Int) < (s.size : Int)) = true := by simp; omega
    clear hbig
    go_enter Try.func12, Try.ntmps12
    go_wp2_with fail
    refine (awake16 _).mono ?_
    rintro e' w1 ⟨rfl, h1⟩
    go_wp2_with fail
    refine (awake16 _).mono ?_
    rintro e' w3 ⟨rfl, h4⟩
    go_wp2_with fail
    go_ret
    exact ⟨rfl, h1.trans (h4.mono h1.size)⟩
  · have tb : decide ((1000 : Int) < (s.size : Int)) = false := by simp; omega
    have HS : Hid (s.size ≤ 1000) := Nat.le_of_not_lt hbig
    clear hbig
    go_enter Try.func12, Try.ntmps12
    go_wp2_with fail
    refine (awake16 _).mono ?_
    rintro e' w1 ⟨rfl, h1⟩
    have h2 := fresh (Holds.belowed (Holds.start w) h1) 74
    have hp := put_nil _ _ _ _ _ _ _ h2 (by decide)
    have HP := Lib.hid hp
    clear h2 hp h1
    go_wp2_with fail
    refine HP.out.mono ?_
    rintro e' w2 ⟨rfl, h2⟩
    have H2 := Lib.hid h2
    clear h2 HP
    have hcv := fun w s => run_bytes_of_string (P := Try.prog) w 9 25 5 s Try.underlying9 Try.underlying25 Try.underlying5
    obtain ⟨bs, hb1, hb2, hb3⟩ := nums_bytes s
    have hrd := rd_conv w2 s (by have := HS.out; unfold maxLen; omega) 5 hb1 hb2
    have hok : bytesOk bs := ⟨by have := HS.out; omega, hb3⟩
    have HRD := Lib.hid hrd
    have HOK := Lib.hid hok
    clear hb1 hb2 hb3 hrd hok
    go_wp2_with fail
    obtain ⟨vw, h2⟩ := H2.out
    have h3 := h2.drew.alloc' (.cells (bytesRow s (grownCap w2 s.size 0 5)) 5 ((bytesRow s (grownCap w2 s.size 0 5)).size, (bytesRow s (grownCap w2 s.size 0 5)).size + 1))
    refine (rnew _ _ _ _ _ bs h3 HRD.out HOK.out).mono ?_
    rintro e' w3 ⟨br, rfl, vr, h4⟩
    have h5 : HasW _ _ w3 _ _ _ _ := ⟨vw, h4.up3.up3⟩
    have H5 := Lib.hid h5
    clear h2 h3 h4 h5 HRD hcv
    go_wp2_with fail
    refine (take_nil _ _).mono ?_
    rintro e' w4 ⟨rfl, rfl⟩
    go_wp2_with fail
    refine (queue_nil _ _).mono ?_
    rintro e' w5 ⟨rfl, rfl⟩
    go_wp2_with fail
    refine (count _ _ _ _ _ _ _ H5.out).mono ?_
    rintro e' w6 ⟨rfl, rfl⟩
    go_wp2_with fail
    refine (confirm_nil _ _).mono ?_
    rintro e' w7 ⟨rfl, hd⟩
    have hb7 : Below w.heap.size w w7 := by
      obtain ⟨v, h⟩ := H5.out
      exact (Holds.belowed h hd.below).below
    clear hd
    go_wp2_with fail
    refine (waits_nil _).mono ?_
    rintro e' w8 ⟨rfl, rfl⟩
    go_wp2_with fail
    refine (wants_nil _).mono ?_
    rintro e' w9 ⟨rfl, rfl⟩
    go_wp2_with fail
    go_ret
    exact ⟨rfl, hb7⟩

theorem streamNil (w : World) (s : ByteArray) (hs : s.size ≤ maxLen) (n : Int) (hn : (Lit.int .u32 n).wf = true) :
    Calls Try.prog 12 #[.string s, .int .u32 n] w fun e' w' => e' = .returned (.bool true) ∧ Below w.heap.size w w' := streamNil_core w s n hs

end Go.Proofs.Ytpnnalkihcemhaa.Str
