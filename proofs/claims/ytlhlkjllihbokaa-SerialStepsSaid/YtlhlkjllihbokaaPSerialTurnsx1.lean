-- PRINTED BY print.sh 35421559b90ae4d0a3588c463048766b98c2df88dd9212a6774a882060cdf62d: not written by this session
import Derived.Test.YtlhlkjllihbokaaPSerialTurnsx0
namespace Go.Proofs.Ytlhlkjllihbokaa.PSerialTurns
open Go.RowKit Go.Proofs.YtlhlkjllihbokaaW.PrintWords Go.Proofs.YtlhlkjllihbokaaW.PrintLast Go.Proofs.YtlhlkjllihbokaaW.PrintMore
attribute [local go_sem] max2_int min2_int max_two min_two max_three min_three max_four min_four   -- for this text's walks alone
set_option linter.unusedVariables false
set_option linter.unusedSimpArgs false

/-! ### serial_Steps: function 13 -/
def serial_Steps.f (a0 : Int) (a1 : Int) : Option (Int) := some (wrap64 (IntKind.i16.wrap (IntKind.u16.wrap (a1 - a0))))
set_option maxHeartbeats 8000000 in
set_option maxRecDepth 100000 in
theorem serial_Steps.calls (a0 : Int) (a1 : Int) (r : Int) (w : World) (h : serial_Steps.f a0 a1 = some r) :
    Calls Try.prog 13 #[.int .u16 a0, .int .u16 a1] w fun e w' => e = .returned (.int .i64 r) ∧ Drawn0 w w' := by
  have H : (some (wrap64 (IntKind.i16.wrap (IntKind.u16.wrap (a1 - a0))))) = some r := h
  clear h
  obtain rfl := Option.some.inj H
  go_enter Try.func13, Try.ntmps13
  go_wp2
  go_ret
  exact ⟨by first | rfl | (simp; done) | (simp [*]; done), by repeat (first | exact Drawn0.refl _ | apply Drawn0.step)⟩

/-! ### serial_Later: function 15 -/
def serial_Later.f (a0 : Int) (a1 : Int) : Option (Bool) := (serial_Steps.f a0 a1).bind fun t101 => (some (decide (t101 > 0)))
set_option maxHeartbeats 8000000 in
set_option maxRecDepth 100000 in
theorem serial_Later.calls (a0 : Int) (a1 : Int) (r : Bool) (w : World) (h : serial_Later.f a0 a1 = some r) :
    Calls Try.prog 15 #[.int .u16 a0, .int .u16 a1] w fun e w' => e = .returned (.bool r) ∧ Drawn0 w w' := by
  have H : ((serial_Steps.f a0 a1).bind fun t101 => (some (decide (t101 > 0)))) = some r := h
  clear h
  replace H := Option.bind_eq_some_iff.mp H
  obtain ⟨t101, A30, H⟩ := H
  replace H : (some (decide (t101 > 0))) = some r := H
  have A3 := Aside0.mk A30
  clear A30
  obtain rfl := Option.some.inj H
  go_enter Try.func15, Try.ntmps15
  go_wp2_with (first | ((with_reducible refine gate_callee (f := 13) rfl ?_); refine goesL_ (some 7) rfl rfl Try.func13 (by kernel_rfl) rfl #[.int .u16 a0, .int .u16 a1] rfl (by (try simp only [List.map_toArray, List.map_cons, List.map_nil]); first | done | rfl | (simp only [List.length_drop, List.length_take]; rfl)) ?_; (with_reducible refine (serial_Steps.calls a0 a1 t101 _ A3.out).mono ?_); rintro e w' ⟨rfl, ⟨nd, rfl⟩⟩; refine ⟨_, rfl, ?_⟩))
  go_ret
  exact ⟨by first | rfl | (simp; done) | (simp [*]; done), by repeat (first | exact Drawn0.refl _ | apply Drawn0.step)⟩

/-! ### ricochetlaw04_awake: function 12 -/
def ricochetlaw04_awake.f  : Option (Bool) := (serial_Later.f 65535 0).bind fun t102 => (if t102 = true then ((serial_Later.f 0 65535).bind fun t103 => (some (!t103))) else (some false))
set_option maxHeartbeats 8000000 in
set_option maxRecDepth 100000 in
theorem ricochetlaw04_awake.calls  (r : Bool) (w : World) (h : ricochetlaw04_awake.f  = some r) :
    Calls Try.prog 12 #[] w fun e w' => e = .returned (.bool r) ∧ Drawn0 w w' := by
  have H : ((serial_Later.f 65535 0).bind fun t102 => (if t102 = true then ((serial_Later.f 0 65535).bind fun t103 => (some (!t103))) else (some false))) = some r := h
  clear h
  replace H := Option.bind_eq_some_iff.mp H
  obtain ⟨t102, A10, H⟩ := H
  replace H : (if t102 = true then ((serial_Later.f 0 65535).bind fun t103 => (some (!t103))) else (some false)) = some r := H
  have A1 := Aside0.mk A10
  clear A10
  by_cases c2 : t102 = true
  · subst c2
    have H1 : ((serial_Later.f 0 65535).bind fun t103 => (some (!t103))) = some r := by rw [if_pos rfl] at H; exact H
    clear H
    have H := H1
    clear H1
    replace H := Option.bind_eq_some_iff.mp H
    obtain ⟨t103, A30, H⟩ := H
    replace H : (some (!t103)) = some r := H
    have A3 := Aside0.mk A30
    clear A30
    obtain rfl := Option.some.inj H
    go_enter Try.func12, Try.ntmps12
    go_wp2_with (first | ((with_reducible refine gate_callee (f := 15) rfl ?_); refine goesL_ (some 1) rfl rfl Try.func15 (by kernel_rfl) rfl #[.int .u16 65535, .int .u16 0] rfl (by (try simp only [List.map_toArray, List.map_cons, List.map_nil]); first | done | rfl | (simp only [List.length_drop, List.length_take]; rfl)) ?_; (with_reducible refine (serial_Later.calls 65535 0 true _ A1.out).mono ?_); rintro e w' ⟨rfl, ⟨nd, rfl⟩⟩; refine ⟨_, rfl, ?_⟩) | (go_at_call 15; (with_reducible refine (serial_Later.calls 0 65535 t103 _ A3.out).mono ?_); rintro e w' ⟨rfl, ⟨nd, rfl⟩⟩))
    go_ret
    exact ⟨by first | rfl | (simp; done) | (simp [*]; done), by repeat (first | exact Drawn0.refl _ | apply Drawn0.step)⟩
  · replace c2 := Bool.eq_false_iff.mpr c2
    subst c2
    have H1 : (some false) = some r := by rw [if_neg (show ¬ (false = true) by decide)] at H; exact H
    clear H
    have H := H1
    clear H1
    obtain rfl := Option.some.inj H
    go_enter Try.func12, Try.ntmps12
    go_wp2_with (first | ((with_reducible refine gate_callee (f := 15) rfl ?_); refine goesL_ (some 1) rfl rfl Try.func15 (by kernel_rfl) rfl #[.int .u16 65535, .int .u16 0] rfl (by (try simp only [List.map_toArray, List.map_cons, List.map_nil]); first | done | rfl | (simp only [List.length_drop, List.length_take]; rfl)) ?_; (with_reducible refine (serial_Later.calls 65535 0 false _ A1.out).mono ?_); rintro e w' ⟨rfl, ⟨nd, rfl⟩⟩; refine ⟨_, rfl, ?_⟩))
    go_ret
    exact ⟨by first | rfl | (simp; done) | (simp [*]; done), by repeat (first | exact Drawn0.refl _ | apply Drawn0.step)⟩

/-! ### ricochetlaw04_SerialTurns: function 4 -/
def ricochetlaw04_SerialTurns.f (a0 : Int) (a1 : Int) (a2 : Int) : Option (Bool) := (serial_Steps.f a0 a1).bind fun t104 => ((ricochetlaw04_awake.f).bind fun t105 => (if t105 = true then ((serial_Steps.f a1 a0).bind fun t106 => (if t104 = (wrap64 (-t106)) then ((serial_Steps.f (IntKind.u16.wrap (a0 + a2)) (IntKind.u16.wrap (a1 + a2))).bind fun t107 => (if t104 = t107 then (if t104 ≥ (-32768) then (if t104 ≤ 32767 then (some ((IntKind.u16.wrap (t104)) == (IntKind.u16.wrap (a1 - a0)))) else (some false)) else (some false)) else (some false))) else (if t104 = (-32768) then ((serial_Steps.f (IntKind.u16.wrap (a0 + a2)) (IntKind.u16.wrap (a1 + a2))).bind fun t108 => (if t104 = t108 then (if t104 ≥ (-32768) then (if t104 ≤ 32767 then (some ((IntKind.u16.wrap (t104)) == (IntKind.u16.wrap (a1 - a0)))) else (some false)) else (some false)) else (some false))) else (some false)))) else (some false)))
set_option maxHeartbeats 8000000 in
set_option maxRecDepth 100000 in
theorem ricochetlaw04_SerialTurns.calls (a0 : Int) (a1 : Int) (a2 : Int) (r : Bool) (w : World) (h : ricochetlaw04_SerialTurns.f a0 a1 a2 = some r) :
    Calls Try.prog 4 #[.int .u16 a0, .int .u16 a1, .int .u16 a2] w fun e w' => e = .returned (.bool r) ∧ Drawn0 w w' := by
  have H : ((serial_Steps.f a0 a1).bind fun t104 => ((ricochetlaw04_awake.f).bind fun t105 => (if t105 = true then ((serial_Steps.f a1 a0).bind fun t106 => (if t104 = (wrap64 (-t106)) then ((serial_Steps.f (IntKind.u16.wrap (a0 + a2)) (IntKind.u16.wrap (a1 + a2))).bind fun t107 => (if t104 = t107 then (if t104 ≥ (-32768) then (if t104 ≤ 32767 then (some ((IntKind.u16.wrap (t104)) == (IntKind.u16.wrap (a1 - a0)))) else (some false)) else (some false)) else (some false))) else (if t104 = (-32768) then ((serial_Steps.f (IntKind.u16.wrap (a0 + a2)) (IntKind.u16.wrap (a1 + a2))).bind fun t108 => (if t104 = t108 then (if t104 ≥ (-32768) then (if t104 ≤ 32767 then (some ((IntKind.u16.wrap (t104)) == (IntKind.u16.wrap (a1 - a0)))) else (some false)) else (some false)) else (some false))) else (some false)))) else (some false)))) = some r := h
  clear h
  replace H := Option.bind_eq_some_iff.mp H
  obtain ⟨t104, A40, H⟩ := H
  replace H : ((ricochetlaw04_awake.f).bind fun t105 => (if t105 = true then ((serial_Steps.f a1 a0).bind fun t106 => (if t104 = (wrap64 (-t106)) then ((serial_Steps.f (IntKind.u16.wrap (a0 + a2)) (IntKind.u16.wrap (a1 + a2))).bind fun t107 => (if t104 = t107 then (if t104 ≥ (-32768) then (if t104 ≤ 32767 then (some ((IntKind.u16.wrap (t104)) == (IntKind.u16.wrap (a1 - a0)))) else (some false)) else (some false)) else (some false))) else (if t104 = (-32768) then ((serial_Steps.f (IntKind.u16.wrap (a0 + a2)) (IntKind.u16.wrap (a1 + a2))).bind fun t108 => (if t104 = t108 then (if t104 ≥ (-32768) then (if t104 ≤ 32767 then (some ((IntKind.u16.wrap (t104)) == (IntKind.u16.wrap (a1 - a0)))) else (some false)) else (some false)) else (some false))) else (some false)))) else (some false))) = some r := H
  have A4 := Aside0.mk A40
  clear A40
  replace H := Option.bind_eq_some_iff.mp H
  obtain ⟨t105, A50, H⟩ := H
  replace H : (if t105 = true then ((serial_Steps.f a1 a0).bind fun t106 => (if t104 = (wrap64 (-t106)) then ((serial_Steps.f (IntKind.u16.wrap (a0 + a2)) (IntKind.u16.wrap (a1 + a2))).bind fun t107 => (if t104 = t107 then (if t104 ≥ (-32768) then (if t104 ≤ 32767 then (some ((IntKind.u16.wrap (t104)) == (IntKind.u16.wrap (a1 - a0)))) else (some false)) else (some false)) else (some false))) else (if t104 = (-32768) then ((serial_Steps.f (IntKind.u16.wrap (a0 + a2)) (IntKind.u16.wrap (a1 + a2))).bind fun t108 => (if t104 = t108 then (if t104 ≥ (-32768) then (if t104 ≤ 32767 then (some ((IntKind.u16.wrap (t104)) == (IntKind.u16.wrap (a1 - a0)))) else (some false)) else (some false)) else (some false))) else (some false)))) else (some false)) = some r := H
  have A5 := Aside0.mk A50
  clear A50
  by_cases c6 : t105 = true
  · subst c6
    have H1 : ((serial_Steps.f a1 a0).bind fun t106 => (if t104 = (wrap64 (-t106)) then ((serial_Steps.f (IntKind.u16.wrap (a0 + a2)) (IntKind.u16.wrap (a1 + a2))).bind fun t107 => (if t104 = t107 then (if t104 ≥ (-32768) then (if t104 ≤ 32767 then (some ((IntKind.u16.wrap (t104)) == (IntKind.u16.wrap (a1 - a0)))) else (some false)) else (some false)) else (some false))) else (if t104 = (-32768) then ((serial_Steps.f (IntKind.u16.wrap (a0 + a2)) (IntKind.u16.wrap (a1 + a2))).bind fun t108 => (if t104 = t108 then (if t104 ≥ (-32768) then (if t104 ≤ 32767 then (some ((IntKind.u16.wrap (t104)) == (IntKind.u16.wrap (a1 - a0)))) else (some false)) else (some false)) else (some false))) else (some false)))) = some r := by rw [if_pos rfl] at H; exact H
    clear H
    have H := H1
    clear H1
    replace H := Option.bind_eq_some_iff.mp H
    obtain ⟨t106, A70, H⟩ := H
    replace H : (if t104 = (wrap64 (-t106)) then ((serial_Steps.f (IntKind.u16.wrap (a0 + a2)) (IntKind.u16.wrap (a1 + a2))).bind fun t107 => (if t104 = t107 then (if t104 ≥ (-32768) then (if t104 ≤ 32767 then (some ((IntKind.u16.wrap (t104)) == (IntKind.u16.wrap (a1 - a0)))) else (some false)) else (some false)) else (some false))) else (if t104 = (-32768) then ((serial_Steps.f (IntKind.u16.wrap (a0 + a2)) (IntKind.u16.wrap (a1 + a2))).bind fun t108 => (if t104 = t108 then (if t104 ≥ (-32768) then (if t104 ≤ 32767 then (some ((IntKind.u16.wrap (t104)) == (IntKind.u16.wrap (a1 - a0)))) else (some false)) else (some false)) else (some false))) else (some false))) = some r := H
    have A7 := Aside0.mk A70
    clear A70
    by_cases c8 : t104 = (wrap64 (-t106))
    · rw [if_pos c8] at H
      have c8b0 : (t104 == (wrap64 (-t106))) = true := beq_iff_eq.mpr c8
      have c8b1 : (t104 != (wrap64 (-t106))) = false := bne_eq_false_iff_eq.mpr c8
      clear c8
      replace H := Option.bind_eq_some_iff.mp H
      obtain ⟨t107, A90, H⟩ := H
      replace H : (if t104 = t107 then (if t104 ≥ (-32768) then (if t104 ≤ 32767 then (some ((IntKind.u16.wrap (t104)) == (IntKind.u16.wrap (a1 - a0)))) else (some false)) else (some false)) else (some false)) = some r := H
      have A9 := Aside0.mk A90
      clear A90
      by_cases c10 : t104 = t107
      · rw [if_pos c10] at H
        have c10b0 : (t104 == t107) = true := beq_iff_eq.mpr c10
        have c10b1 : (t104 != t107) = false := bne_eq_false_iff_eq.mpr c10
        clear c10
        by_cases c11 : t104 ≥ (-32768)
        · rw [if_pos c11] at H
          have c11b0 : decide ((-32768) ≤ t104) = true := decide_eq_true c11
          clear c11
          by_cases c12 : t104 ≤ 32767
          · rw [if_pos c12] at H
            have c12b0 : decide (t104 ≤ 32767) = true := decide_eq_true c12
            clear c12
            obtain rfl := Option.some.inj H
            go_enter Try.func4, Try.ntmps4
            go_wp2_with (first | ((with_reducible refine gate_callee (f := 13) rfl ?_); refine goesL_ (some 10) rfl rfl Try.func13 (by kernel_rfl) rfl #[.int .u16 a0, .int .u16 a1] rfl (by (try simp only [List.map_toArray, List.map_cons, List.map_nil]); first | done | rfl | (simp only [List.length_drop, List.length_take]; rfl)) ?_; (with_reducible refine (serial_Steps.calls a0 a1 t104 _ A4.out).mono ?_); rintro e w' ⟨rfl, ⟨nd, rfl⟩⟩; refine ⟨_, rfl, ?_⟩) | ((with_reducible refine gate_callee (f := 12) rfl ?_); refine goesL_ (some 11) rfl rfl Try.func12 (by kernel_rfl) rfl #[] rfl (by (try simp only [List.map_toArray, List.map_cons, List.map_nil]); first | done | rfl | (simp only [List.length_drop, List.length_take]; rfl)) ?_; (with_reducible refine (ricochetlaw04_awake.calls  true _ A5.out).mono ?_); rintro e w' ⟨rfl, ⟨nd, rfl⟩⟩; refine ⟨_, rfl, ?_⟩) | (go_at_call 13; (with_reducible refine (serial_Steps.calls a1 a0 t106 _ A7.out).mono ?_); rintro e w' ⟨rfl, ⟨nd, rfl⟩⟩) | (go_at_call 13; (with_reducible refine (serial_Steps.calls (IntKind.u16.wrap (a0 + a2)) (IntKind.u16.wrap (a1 + a2)) t107 _ A9.out).mono ?_); rintro e w' ⟨rfl, ⟨nd, rfl⟩⟩))
            go_ret
            exact ⟨by first | rfl | (simp; done) | (simp [*]; done), by repeat (first | exact Drawn0.refl _ | apply Drawn0.step)⟩
          · rw [if_neg c12] at H
            have c12b0 : decide (t104 ≤ 32767) = false := decide_eq_false c12
            clear c12
            obtain rfl := Option.some.inj H
            go_enter Try.func4, Try.ntmps4
            go_wp2_with (first | ((with_reducible refine gate_callee (f := 13) rfl ?_); refine goesL_ (some 10) rfl rfl Try.func13 (by kernel_rfl) rfl #[.int .u16 a0, .int .u16 a1] rfl (by (try simp only [List.map_toArray, List.map_cons, List.map_nil]); first | done | rfl | (simp only [List.length_drop, List.length_take]; rfl)) ?_; (with_reducible refine (serial_Steps.calls a0 a1 t104 _ A4.out).mono ?_); rintro e w' ⟨rfl, ⟨nd, rfl⟩⟩; refine ⟨_, rfl, ?_⟩) | ((with_reducible refine gate_callee (f := 12) rfl ?_); refine goesL_ (some 11) rfl rfl Try.func12 (by kernel_rfl) rfl #[] rfl (by (try simp only [List.map_toArray, List.map_cons, List.map_nil]); first | done | rfl | (simp only [List.length_drop, List.length_take]; rfl)) ?_; (with_reducible refine (ricochetlaw04_awake.calls  true _ A5.out).mono ?_); rintro e w' ⟨rfl, ⟨nd, rfl⟩⟩; refine ⟨_, rfl, ?_⟩) | (go_at_call 13; (with_reducible refine (serial_Steps.calls a1 a0 t106 _ A7.out).mono ?_); rintro e w' ⟨rfl, ⟨nd, rfl⟩⟩) | (go_at_call 13; (with_reducible refine (serial_Steps.calls (IntKind.u16.wrap (a0 + a2)) (IntKind.u16.wrap (a1 + a2)) t107 _ A9.out).mono ?_); rintro e w' ⟨rfl, ⟨nd, rfl⟩⟩))
            go_ret
            exact ⟨by first | rfl | (simp; done) | (simp [*]; done), by repeat (first | exact Drawn0.refl _ | apply Drawn0.step)⟩
        · rw [if_neg c11] at H
          have c11b0 : decide ((-32768) ≤ t104) = false := decide_eq_false c11
          clear c11
          obtain rfl := Option.some.inj H
          go_enter Try.func4, Try.ntmps4
          go_wp2_with (first | ((with_reducible refine gate_callee (f := 13) rfl ?_); refine goesL_ (some 10) rfl rfl Try.func13 (by kernel_rfl) rfl #[.int .u16 a0, .int .u16 a1] rfl (by (try simp only [List.map_toArray, List.map_cons, List.map_nil]); first | done | rfl | (simp only [List.length_drop, List.length_take]; rfl)) ?_; (with_reducible refine (serial_Steps.calls a0 a1 t104 _ A4.out).mono ?_); rintro e w' ⟨rfl, ⟨nd, rfl⟩⟩; refine ⟨_, rfl, ?_⟩) | ((with_reducible refine gate_callee (f := 12) rfl ?_); refine goesL_ (some 11) rfl rfl Try.func12 (by kernel_rfl) rfl #[] rfl (by (try simp only [List.map_toArray, List.map_cons, List.map_nil]); first | done | rfl | (simp only [List.length_drop, List.length_take]; rfl)) ?_; (with_reducible refine (ricochetlaw04_awake.calls  true _ A5.out).mono ?_); rintro e w' ⟨rfl, ⟨nd, rfl⟩⟩; refine ⟨_, rfl, ?_⟩) | (go_at_call 13; (with_reducible refine (serial_Steps.calls a1 a0 t106 _ A7.out).mono ?_); rintro e w' ⟨rfl, ⟨nd, rfl⟩⟩) | (go_at_call 13; (with_reducible refine (serial_Steps.calls (IntKind.u16.wrap (a0 + a2)) (IntKind.u16.wrap (a1 + a2)) t107 _ A9.out).mono ?_); rintro e w' ⟨rfl, ⟨nd, rfl⟩⟩))
          go_ret
          exact ⟨by first | rfl | (simp; done) | (simp [*]; done), by repeat (first | exact Drawn0.refl _ | apply Drawn0.step)⟩
      · rw [if_neg c10] at H
        have c10b0 : (t104 == t107) = false := beq_eq_false_iff_ne.mpr c10
        have c10b1 : (t104 != t107) = true := bne_iff_ne.mpr c10
        obtain rfl := Option.some.inj H
        go_enter Try.func4, Try.ntmps4
        go_wp2_with (first | ((with_reducible refine gate_callee (f := 13) rfl ?_); refine goesL_ (some 10) rfl rfl Try.func13 (by kernel_rfl) rfl #[.int .u16 a0, .int .u16 a1] rfl (by (try simp only [List.map_toArray, List.map_cons, List.map_nil]); first | done | rfl | (simp only [List.length_drop, List.length_take]; rfl)) ?_; (with_reducible refine (serial_Steps.calls a0 a1 t104 _ A4.out).mono ?_); rintro e w' ⟨rfl, ⟨nd, rfl⟩⟩; refine ⟨_, rfl, ?_⟩) | ((with_reducible refine gate_callee (f := 12) rfl ?_); refine goesL_ (some 11) rfl rfl Try.func12 (by kernel_rfl) rfl #[] rfl (by (try simp only [List.map_toArray, List.map_cons, List.map_nil]); first | done | rfl | (simp only [List.length_drop, List.length_take]; rfl)) ?_; (with_reducible refine (ricochetlaw04_awake.calls  true _ A5.out).mono ?_); rintro e w' ⟨rfl, ⟨nd, rfl⟩⟩; refine ⟨_, rfl, ?_⟩) | (go_at_call 13; (with_reducible refine (serial_Steps.calls a1 a0 t106 _ A7.out).mono ?_); rintro e w' ⟨rfl, ⟨nd, rfl⟩⟩) | (go_at_call 13; (with_reducible refine (serial_Steps.calls (IntKind.u16.wrap (a0 + a2)) (IntKind.u16.wrap (a1 + a2)) t107 _ A9.out).mono ?_); rintro e w' ⟨rfl, ⟨nd, rfl⟩⟩))
        go_ret
        exact ⟨by first | rfl | (simp; done) | (simp [*]; done), by repeat (first | exact Drawn0.refl _ | apply Drawn0.step)⟩
    · rw [if_neg c8] at H
      have c8b0 : (t104 == (wrap64 (-t106))) = false := beq_eq_false_iff_ne.mpr c8
      have c8b1 : (t104 != (wrap64 (-t106))) = true := bne_iff_ne.mpr c8
      by_cases c13 : t104 = (-32768)
      · rw [if_pos c13] at H
        have c13b0 : (t104 == (-32768)) = true := beq_iff_eq.mpr c13
        have c13b1 : (t104 != (-32768)) = false := bne_eq_false_iff_eq.mpr c13
        clear c13
        replace H := Option.bind_eq_some_iff.mp H
        obtain ⟨t108, A140, H⟩ := H
        replace H : (if t104 = t108 then (if t104 ≥ (-32768) then (if t104 ≤ 32767 then (some ((IntKind.u16.wrap (t104)) == (IntKind.u16.wrap (a1 - a0)))) else (some false)) else (some false)) else (some false)) = some r := H
        have A14 := Aside0.mk A140
        clear A140
        by_cases c15 : t104 = t108
        · rw [if_pos c15] at H
          have c15b0 : (t104 == t108) = true := beq_iff_eq.mpr c15
          have c15b1 : (t104 != t108) = false := bne_eq_false_iff_eq.mpr c15
          clear c15
          by_cases c16 : t104 ≥ (-32768)
          · rw [if_pos c16] at H
            have c16b0 : decide ((-32768) ≤ t104) = true := decide_eq_true c16
            clear c16
            by_cases c17 : t104 ≤ 32767
            · rw [if_pos c17] at H
              have c17b0 : decide (t104 ≤ 32767) = true := decide_eq_true c17
              clear c17
              obtain rfl := Option.some.inj H
              go_enter Try.func4, Try.ntmps4
              go_wp2_with (first | ((with_reducible refine gate_callee (f := 13) rfl ?_); refine goesL_ (some 10) rfl rfl Try.func13 (by kernel_rfl) rfl #[.int .u16 a0, .int .u16 a1] rfl (by (try simp only [List.map_toArray, List.map_cons, List.map_nil]); first | done | rfl | (simp only [List.length_drop, List.length_take]; rfl)) ?_; (with_reducible refine (serial_Steps.calls a0 a1 t104 _ A4.out).mono ?_); rintro e w' ⟨rfl, ⟨nd, rfl⟩⟩; refine ⟨_, rfl, ?_⟩) | ((with_reducible refine gate_callee (f := 12) rfl ?_); refine goesL_ (some 11) rfl rfl Try.func12 (by kernel_rfl) rfl #[] rfl (by (try simp only [List.map_toArray, List.map_cons, List.map_nil]); first | done | rfl | (simp only [List.length_drop, List.length_take]; rfl)) ?_; (with_reducible refine (ricochetlaw04_awake.calls  true _ A5.out).mono ?_); rintro e w' ⟨rfl, ⟨nd, rfl⟩⟩; refine ⟨_, rfl, ?_⟩) | (go_at_call 13; (with_reducible refine (serial_Steps.calls a1 a0 t106 _ A7.out).mono ?_); rintro e w' ⟨rfl, ⟨nd, rfl⟩⟩) | (go_at_call 13; (with_reducible refine (serial_Steps.calls (IntKind.u16.wrap (a0 + a2)) (IntKind.u16.wrap (a1 + a2)) t108 _ A14.out).mono ?_); rintro e w' ⟨rfl, ⟨nd, rfl⟩⟩))
              go_ret
              exact ⟨by first | rfl | (simp; done) | (simp [*]; done), by repeat (first | exact Drawn0.refl _ | apply Drawn0.step)⟩
            · rw [if_neg c17] at H
              have c17b0 : decide (t104 ≤ 32767) = false := decide_eq_false c17
              clear c17
              obtain rfl := Option.some.inj H
              go_enter Try.func4, Try.ntmps4
              go_wp2_with (first | ((with_reducible refine gate_callee (f := 13) rfl ?_); refine goesL_ (some 10) rfl rfl Try.func13 (by kernel_rfl) rfl #[.int .u16 a0, .int .u16 a1] rfl (by (try simp only [List.map_toArray, List.map_cons, List.map_nil]); first | done | rfl | (simp only [List.length_drop, List.length_take]; rfl)) ?_; (with_reducible refine (serial_Steps.calls a0 a1 t104 _ A4.out).mono ?_); rintro e w' ⟨rfl, ⟨nd, rfl⟩⟩; refine ⟨_, rfl, ?_⟩) | ((with_reducible refine gate_callee (f := 12) rfl ?_); refine goesL_ (some 11) rfl rfl Try.func12 (by kernel_rfl) rfl #[] rfl (by (try simp only [List.map_toArray, List.map_cons, List.map_nil]); first | done | rfl | (simp only [List.length_drop, List.length_take]; rfl)) ?_; (with_reducible refine (ricochetlaw04_awake.calls  true _ A5.out).mono ?_); rintro e w' ⟨rfl, ⟨nd, rfl⟩⟩; refine ⟨_, rfl, ?_⟩) | (go_at_call 13; (with_reducible refine (serial_Steps.calls a1 a0 t106 _ A7.out).mono ?_); rintro e w' ⟨rfl, ⟨nd, rfl⟩⟩) | (go_at_call 13; (with_reducible refine (serial_Steps.calls (IntKind.u16.wrap (a0 + a2)) (IntKind.u16.wrap (a1 + a2)) t108 _ A14.out).mono ?_); rintro e w' ⟨rfl, ⟨nd, rfl⟩⟩))
              go_ret
              exact ⟨by first | rfl | (simp; done) | (simp [*]; done), by repeat (first | exact Drawn0.refl _ | apply Drawn0.step)⟩
          · rw [if_neg c16] at H
            have c16b0 : decide ((-32768) ≤ t104) = false := decide_eq_false c16
            clear c16
            obtain rfl := Option.some.inj H
            go_enter Try.func4, Try.ntmps4
            go_wp2_with (first | ((with_reducible refine gate_callee (f := 13) rfl ?_); refine goesL_ (some 10) rfl rfl Try.func13 (by kernel_rfl) rfl #[.int .u16 a0, .int .u16 a1] rfl (by (try simp only [List.map_toArray, List.map_cons, List.map_nil]); first | done | rfl | (simp only [List.length_drop, List.length_take]; rfl)) ?_; (with_reducible refine (serial_Steps.calls a0 a1 t104 _ A4.out).mono ?_); rintro e w' ⟨rfl, ⟨nd, rfl⟩⟩; refine ⟨_, rfl, ?_⟩) | ((with_reducible refine gate_callee (f := 12) rfl ?_); refine goesL_ (some 11) rfl rfl Try.func12 (by kernel_rfl) rfl #[] rfl (by (try simp only [List.map_toArray, List.map_cons, List.map_nil]); first | done | rfl | (simp only [List.length_drop, List.length_take]; rfl)) ?_; (with_reducible refine (ricochetlaw04_awake.calls  true _ A5.out).mono ?_); rintro e w' ⟨rfl, ⟨nd, rfl⟩⟩; refine ⟨_, rfl, ?_⟩) | (go_at_call 13; (with_reducible refine (serial_Steps.calls a1 a0 t106 _ A7.out).mono ?_); rintro e w' ⟨rfl, ⟨nd, rfl⟩⟩) | (go_at_call 13; (with_reducible refine (serial_Steps.calls (IntKind.u16.wrap (a0 + a2)) (IntKind.u16.wrap (a1 + a2)) t108 _ A14.out).mono ?_); rintro e w' ⟨rfl, ⟨nd, rfl⟩⟩))
            go_ret
            exact ⟨by first | rfl | (simp; done) | (simp [*]; done), by repeat (first | exact Drawn0.refl _ | apply Drawn0.step)⟩
        · rw [if_neg c15] at H
          have c15b0 : (t104 == t108) = false := beq_eq_false_iff_ne.mpr c15
          have c15b1 : (t104 != t108) = true := bne_iff_ne.mpr c15
          obtain rfl := Option.some.inj H
          go_enter Try.func4, Try.ntmps4
          go_wp2_with (first | ((with_reducible refine gate_callee (f := 13) rfl ?_); refine goesL_ (some 10) rfl rfl Try.func13 (by kernel_rfl) rfl #[.int .u16 a0, .int .u16 a1] rfl (by (try simp only [List.map_toArray, List.map_cons, List.map_nil]); first | done | rfl | (simp only [List.length_drop, List.length_take]; rfl)) ?_; (with_reducible refine (serial_Steps.calls a0 a1 t104 _ A4.out).mono ?_); rintro e w' ⟨rfl, ⟨nd, rfl⟩⟩; refine ⟨_, rfl, ?_⟩) | ((with_reducible refine gate_callee (f := 12) rfl ?_); refine goesL_ (some 11) rfl rfl Try.func12 (by kernel_rfl) rfl #[] rfl (by (try simp only [List.map_toArray, List.map_cons, List.map_nil]); first | done | rfl | (simp only [List.length_drop, List.length_take]; rfl)) ?_; (with_reducible refine (ricochetlaw04_awake.calls  true _ A5.out).mono ?_); rintro e w' ⟨rfl, ⟨nd, rfl⟩⟩; refine ⟨_, rfl, ?_⟩) | (go_at_call 13; (with_reducible refine (serial_Steps.calls a1 a0 t106 _ A7.out).mono ?_); rintro e w' ⟨rfl, ⟨nd, rfl⟩⟩) | (go_at_call 13; (with_reducible refine (serial_Steps.calls (IntKind.u16.wrap (a0 + a2)) (IntKind.u16.wrap (a1 + a2)) t108 _ A14.out).mono ?_); rintro e w' ⟨rfl, ⟨nd, rfl⟩⟩))
          go_ret
          exact ⟨by first | rfl | (simp; done) | (simp [*]; done), by repeat (first | exact Drawn0.refl _ | apply Drawn0.step)⟩
      · rw [if_neg c13] at H
        have c13b0 : (t104 == (-32768)) = false := beq_eq_false_iff_ne.mpr c13
        have c13b1 : (t104 != (-32768)) = true := bne_iff_ne.mpr c13
        obtain rfl := Option.some.inj H
        go_enter Try.func4, Try.ntmps4
        go_wp2_with (first | ((with_reducible refine gate_callee (f := 13) rfl ?_); refine goesL_ (some 10) rfl rfl Try.func13 (by kernel_rfl) rfl #[.int .u16 a0, .int .u16 a1] rfl (by (try simp only [List.map_toArray, List.map_cons, List.map_nil]); first | done | rfl | (simp only [List.length_drop, List.length_take]; rfl)) ?_; (with_reducible refine (serial_Steps.calls a0 a1 t104 _ A4.out).mono ?_); rintro e w' ⟨rfl, ⟨nd, rfl⟩⟩; refine ⟨_, rfl, ?_⟩) | ((with_reducible refine gate_callee (f := 12) rfl ?_); refine goesL_ (some 11) rfl rfl Try.func12 (by kernel_rfl) rfl #[] rfl (by (try simp only [List.map_toArray, List.map_cons, List.map_nil]); first | done | rfl | (simp only [List.length_drop, List.length_take]; rfl)) ?_; (with_reducible refine (ricochetlaw04_awake.calls  true _ A5.out).mono ?_); rintro e w' ⟨rfl, ⟨nd, rfl⟩⟩; refine ⟨_, rfl, ?_⟩) | (go_at_call 13; (with_reducible refine (serial_Steps.calls a1 a0 t106 _ A7.out).mono ?_); rintro e w' ⟨rfl, ⟨nd, rfl⟩⟩))
        go_ret
        exact ⟨by first | rfl | (simp; done) | (simp [*]; done), by repeat (first | exact Drawn0.refl _ | apply Drawn0.step)⟩
  · replace c6 := Bool.eq_false_iff.mpr c6
    subst c6
    have H1 : (some false) = some r := by rw [if_neg (show ¬ (false = true) by decide)] at H; exact H
    clear H
    have H := H1
    clear H1
    obtain rfl := Option.some.inj H
    go_enter Try.func4, Try.ntmps4
    go_wp2_with (first | ((with_reducible refine gate_callee (f := 13) rfl ?_); refine goesL_ (some 10) rfl rfl Try.func13 (by kernel_rfl) rfl #[.int .u16 a0, .int .u16 a1] rfl (by (try simp only [List.map_toArray, List.map_cons, List.map_nil]); first | done | rfl | (simp only [List.length_drop, List.length_take]; rfl)) ?_; (with_reducible refine (serial_Steps.calls a0 a1 t104 _ A4.out).mono ?_); rintro e w' ⟨rfl, ⟨nd, rfl⟩⟩; refine ⟨_, rfl, ?_⟩) | ((with_reducible refine gate_callee (f := 12) rfl ?_); refine goesL_ (some 11) rfl rfl Try.func12 (by kernel_rfl) rfl #[] rfl (by (try simp only [List.map_toArray, List.map_cons, List.map_nil]); first | done | rfl | (simp only [List.length_drop, List.length_take]; rfl)) ?_; (with_reducible refine (ricochetlaw04_awake.calls  false _ A5.out).mono ?_); rintro e w' ⟨rfl, ⟨nd, rfl⟩⟩; refine ⟨_, rfl, ?_⟩))
    go_ret
    exact ⟨by first | rfl | (simp; done) | (simp [*]; done), by repeat (first | exact Drawn0.refl _ | apply Drawn0.step)⟩

/-- THE ONE PURE STATEMENT of ricochetlaw04_SerialTurns: yours. -/
def ricochetlaw04_SerialTurns.Pure : Prop := ∀ (a0 : Int) (a1 : Int) (a2 : Int), (Lit.int .u16 a0).wf = true → (Lit.int .u16 a1).wf = true → (Lit.int .u16 a2).wf = true → ricochetlaw04_SerialTurns.f a0 a1 a2 = some true
theorem ricochetlaw04_SerialTurns.walk (P : ricochetlaw04_SerialTurns.Pure) (a0 : Int) (a1 : Int) (a2 : Int) (w : World) (w0 : (Lit.int .u16 a0).wf = true) (w1 : (Lit.int .u16 a1).wf = true) (w2 : (Lit.int .u16 a2).wf = true) :
    Calls Try.prog 4 #[.int .u16 a0, .int .u16 a1, .int .u16 a2] w fun e w' => e = .returned (.bool true) ∧ Below w.heap.size w w' := by
  have h := P a0 a1 a2 w0 w1 w2
  refine (ricochetlaw04_SerialTurns.calls a0 a1 a2 true w h).mono ?_
  rintro e w' ⟨rfl, hd⟩
  exact ⟨rfl, hd.below⟩

end Go.Proofs.Ytlhlkjllihbokaa.PSerialTurns
