/-
  Contracts of the functions on motors (program and reference): what each returns, in plain numbers. Conditions: those that each theorem states.
-/
import Derived.Test.YtelcaafnjahbkaaFloor
import Derived.Deep.RegionWith
namespace Go.Proofs.Ytelcaafnjahbkaa
open Go.RowKit

/-! ### plain -/
def motB (a s : Int) : Bool := inB a (-10000) 10000 && inB s (-200) 200
theorem motB_t {a s : Int} : motB a s = true ↔ (-10000 ≤ a ∧ a ≤ 10000) ∧ -200 ≤ s ∧ s ≤ 200 := by simp [motB, inB_t]
def brakeF (a s : Int) : Int := if motB a s = true then clampF (-s) (-100) 100 else 0
def aimB (t k d : Int) : Bool := inB t (-10000) 10000 && (inB k 0 64 && inB d 0 64)
theorem aimB_t {t k d : Int} : aimB t k d = true ↔ (-10000 ≤ t ∧ t ≤ 10000) ∧ (0 ≤ k ∧ k ≤ 64) ∧ 0 ≤ d ∧ d ≤ 64 := by simp [aimB, inB_t]
/-- The torque of the controller, for valid arguments. -/
def aimG (a s t k d : Int) : Int := clampF ((k * (t - a) - d * s) / 16) (-100) 100
def aimF (a s t k d : Int) : Int := if (motB a s && aimB t k d) = true then aimG a s t k d else 0
def stepB (a s t f : Int) : Bool := motB a s && (inB t (-100) 100 && inB f 0 100)
theorem stepB_t {a s t f : Int} : stepB a s t f = true ↔ ((-10000 ≤ a ∧ a ≤ 10000) ∧ -200 ≤ s ∧ s ≤ 200) ∧ (-100 ≤ t ∧ t ≤ 100) ∧ 0 ≤ f ∧ f ≤ 100 := by simp [stepB, inB_t, motB_t]
/-- The speed after a step. -/
def spdF (s t f : Int) : Int := clampF (s + t - clampF (s + t) (-f) f) (-200) 200
/-- Angle and speed after a step, for valid arguments. -/
def stA (a s t f : Int) : Int := clampF (a + spdF s t f) (-10000) 10000
def stS (a s t f : Int) : Int := if stA a s t f = a + spdF s t f then spdF s t f else 0
def stepA (a s t f : Int) : Int := if stepB a s t f = true then stA a s t f else 0
def stepS (a s t f : Int) : Int := if stepB a s t f = true then stS a s t f else 0

/-! ### the walks -/
set_option maxHeartbeats 400000 in
theorem motorValid_any (x y : Int) (w : World) :
    Calls Try.prog 16 #[.agg #[.int .i64 x, .int .i64 y]] w fun e w' => e = .returned (.bool (motB x y)) ∧ Up w w' := by
  have key : ∀ b, motB x y = b → Ending.returned (.bool b) = .returned (.bool (motB x y)) := by intro b h; rw [h]
  cases h1 : inB x (-10000) 10000 <;> cases h2 : inB y (-200) 200 <;>
  · have KK := key _ (by simp only [motB, h1, h2]; rfl)
    clear key
    go_enter Try.func16, Try.ntmps16
    go_wp2_with (go_at_call 38; refine (within_any _ _ _ _).mono ?_; rintro e w' ⟨rfl, rfl⟩)
    go_ret
    exact ⟨KK, up_of_below (by repeat (first | with_reducible exact Below.refl _ _ | with_reducible apply below_alloc | with_reducible apply below_drw | with_reducible apply below_drew | with_reducible apply below_drewN | with_reducible apply below_plus | with_reducible apply below_set | (simp; done)))⟩

set_option maxHeartbeats 400000 in
theorem sMotorValid_any (x y : Int) (w : World) :
    Calls Try.prog 14 #[.agg #[.int .i64 x, .int .i64 y]] w fun e w' => e = .returned (.bool (motB x y)) ∧ Up w w' := by
  have key : ∀ b, motB x y = b → Ending.returned (.bool b) = .returned (.bool (motB x y)) := by intro b h; rw [h]
  cases h1 : inB x (-10000) 10000 <;> cases h2 : inB y (-200) 200 <;>
  · have KK := key _ (by simp only [motB, h1, h2]; rfl)
    clear key
    go_enter Try.func14, Try.ntmps14
    go_wp2_with (go_at_call 37; refine (l1In_any _ _ _ _).mono ?_; rintro e w' ⟨rfl, rfl⟩)
    go_ret
    exact ⟨KK, up_of_below (by repeat (first | with_reducible exact Below.refl _ _ | with_reducible apply below_alloc | with_reducible apply below_drw | with_reducible apply below_drew | with_reducible apply below_drewN | with_reducible apply below_plus | with_reducible apply below_set | (simp; done)))⟩

set_option maxHeartbeats 400000 in
theorem toMotor_any (x y : Int) (w : World) :
    Calls Try.prog 15 #[.agg #[.int .i64 x, .int .i64 y]] w fun e w' => e = .returned (.agg #[.int .i64 x, .int .i64 y]) ∧ Up w w' := by
  go_enter Try.func15, Try.ntmps15
  go_wp2
  refine bodyPost_ret (v := .agg #[.int .i64 x, .int .i64 y]) (by simp [results, Try.results15, go_sem]) rfl ⟨rfl, up_of_below ?_⟩
  repeat (first | with_reducible exact Below.refl _ _ | with_reducible apply below_alloc | with_reducible apply below_drw | with_reducible apply below_drew | with_reducible apply below_drewN | with_reducible apply below_plus | with_reducible apply below_set | (simp; done))

set_option maxHeartbeats 400000 in
theorem eqMotor_any (x y x' y' : Int) (w : World) (hx : x = x') (hy : y = y') :
    Calls Try.prog 25 #[.agg #[.int .i64 x, .int .i64 y], .agg #[.int .i64 x', .int .i64 y']] w fun e w' => e = .returned (.bool true) ∧ Up w w' := by
  subst hx hy
  go_enter Try.func25, Try.ntmps25
  go_wp2
  go_ret
  exact ⟨rfl, up_of_below (by repeat (first | with_reducible exact Below.refl _ _ | with_reducible apply below_alloc | with_reducible apply below_drw | with_reducible apply below_drew | with_reducible apply below_drewN | with_reducible apply below_plus | with_reducible apply below_set | (simp; done)))⟩

set_option maxHeartbeats 400000 in
theorem brake_any (x y : Int) (w : World) :
    Calls Try.prog 18 #[.agg #[.int .i64 x, .int .i64 y]] w fun e w' => e = .returned (.int .i64 (brakeF x y)) ∧ Up w w' := by
  cases h1 : motB x y
  · have KK : brakeF x y = 0 := by unfold brakeF; rw [h1]; rfl
    have KK := Lib.hid KK
    go_enter Try.func18, Try.ntmps18
    go_wp2_with (first | (go_at_call 16; refine (motorValid_any _ _ _).mono ?_; rintro e w1 ⟨rfl, os, d, rfl⟩) | (go_at_call 40; refine (clamp_any _ _ _ _).mono ?_; rintro e w' ⟨rfl, rfl⟩))
    go_ret
    exact ⟨ret_i64 KK.out.symm, up_of_below (by repeat (first | with_reducible exact Below.refl _ _ | with_reducible apply below_alloc | with_reducible apply below_drw | with_reducible apply below_drew | with_reducible apply below_drewN | with_reducible apply below_plus | with_reducible apply below_set | (simp; done)))⟩
  · have KK : brakeF x y = clampF (-y) (-100) 100 := by unfold brakeF; rw [h1]; rfl
    have KK := Lib.hid KK
    obtain ⟨_, b1, b2⟩ := motB_t.1 h1
    go_enter Try.func18, Try.ntmps18
    go_wp2_with (first | (go_at_call 16; refine (motorValid_any _ _ _).mono ?_; rintro e w1 ⟨rfl, os, d, rfl⟩) | (go_at_call 40; refine (clamp_any _ _ _ _).mono ?_; rintro e w' ⟨rfl, rfl⟩))
    go_ret
    exact ⟨ret_i64 KK.out.symm, up_of_below (by repeat (first | with_reducible exact Below.refl _ _ | with_reducible apply below_alloc | with_reducible apply below_drw | with_reducible apply below_drew | with_reducible apply below_drewN | with_reducible apply below_plus | with_reducible apply below_set | (simp; done)))⟩

set_option maxHeartbeats 400000 in
theorem sBrake_any (x y : Int) (w : World) :
    Calls Try.prog 17 #[.agg #[.int .i64 x, .int .i64 y]] w fun e w' => e = .returned (.int .i64 (brakeF x y)) ∧ Up w w' := by
  cases h1 : motB x y
  · have KK : brakeF x y = 0 := by unfold brakeF; rw [h1]; rfl
    have KK := Lib.hid KK
    go_enter Try.func17, Try.ntmps17
    go_wp2_with (first | (go_at_call 14; refine (sMotorValid_any _ _ _).mono ?_; rintro e w1 ⟨rfl, os, d, rfl⟩) | (go_at_call 39; refine (l1Clip_any _ _ _ _).mono ?_; rintro e w' ⟨rfl, rfl⟩))
    go_ret
    exact ⟨ret_i64 KK.out.symm, up_of_below (by repeat (first | with_reducible exact Below.refl _ _ | with_reducible apply below_alloc | with_reducible apply below_drw | with_reducible apply below_drew | with_reducible apply below_drewN | with_reducible apply below_plus | with_reducible apply below_set | (simp; done)))⟩
  · have KK : brakeF x y = clampF (-y) (-100) 100 := by unfold brakeF; rw [h1]; rfl
    have KK := Lib.hid KK
    obtain ⟨_, b1, b2⟩ := motB_t.1 h1
    go_enter Try.func17, Try.ntmps17
    go_wp2_with (first | (go_at_call 14; refine (sMotorValid_any _ _ _).mono ?_; rintro e w1 ⟨rfl, os, d, rfl⟩) | (go_at_call 39; refine (l1Clip_any _ _ _ _).mono ?_; rintro e w' ⟨rfl, rfl⟩))
    go_ret
    exact ⟨ret_i64 KK.out.symm, up_of_below (by repeat (first | with_reducible exact Below.refl _ _ | with_reducible apply below_alloc | with_reducible apply below_drw | with_reducible apply below_drew | with_reducible apply below_drewN | with_reducible apply below_plus | with_reducible apply below_set | (simp; done)))⟩

set_option maxHeartbeats 400000 in
theorem exactMotorValid_any (x y : Int) (w : World) :
    Calls Try.prog 3 #[.agg #[.int .i64 x, .int .i64 y]] w fun e w' => e = .returned (.bool true) ∧ Up w w' := by
  go_enter Try.func3, Try.ntmps3
  go_wp2_with (first | (go_at_call 15; refine (toMotor_any _ _ _).mono ?_; rintro e w1 ⟨rfl, os, d, rfl⟩) | (go_at_call 14; refine (sMotorValid_any _ _ _).mono ?_; rintro e w1 ⟨rfl, os, d, rfl⟩) | (go_at_call 16; refine (motorValid_any _ _ _).mono ?_; rintro e w1 ⟨rfl, os, d, rfl⟩))
  go_ret
  exact ⟨rfl, up_of_below (by repeat (first | with_reducible exact Below.refl _ _ | with_reducible apply below_alloc | with_reducible apply below_drw | with_reducible apply below_drew | with_reducible apply below_drewN | with_reducible apply below_plus | with_reducible apply below_set | (simp; done)))⟩

set_option maxHeartbeats 400000 in
theorem exactBrakeTorque_any (x y : Int) (w : World) :
    Calls Try.prog 4 #[.agg #[.int .i64 x, .int .i64 y]] w fun e w' => e = .returned (.bool true) ∧ Up w w' := by
  go_enter Try.func4, Try.ntmps4
  go_wp2_with (first | (go_at_call 15; refine (toMotor_any _ _ _).mono ?_; rintro e w1 ⟨rfl, os, d, rfl⟩) | (go_at_call 17; refine (sBrake_any _ _ _).mono ?_; rintro e w1 ⟨rfl, os, d, rfl⟩) | (go_at_call 18; refine (brake_any _ _ _).mono ?_; rintro e w1 ⟨rfl, os, d, rfl⟩))
  go_ret
  exact ⟨rfl, up_of_below (by repeat (first | with_reducible exact Below.refl _ _ | with_reducible apply below_alloc | with_reducible apply below_drw | with_reducible apply below_drew | with_reducible apply below_drewN | with_reducible apply below_plus | with_reducible apply below_set | (simp; done)))⟩

end Go.Proofs.Ytelcaafnjahbkaa
