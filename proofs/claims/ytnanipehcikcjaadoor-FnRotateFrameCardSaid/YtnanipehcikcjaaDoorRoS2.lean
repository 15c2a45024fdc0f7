/-
  The contracts of the program's sine and cosine at quarter turns, and of a point's rotation. Conditions: those that each theorem states.
-/
import Derived.Test.YtnanipehcikcjaaDoorRoS
import Derived.Test.YtnanipehcikcjaaDoorRoFl
import Derived.Test.YtnanipehcikcjaaDoorLast
namespace Go.Proofs.YtnanipehcikcjaaDoor
open Go.RowKit
set_option linter.unusedSimpArgs false

set_option maxHeartbeats 400000 in
theorem degrees_any (d r : Int) (w : World) (h0 : 0 ≤ d) (h1 : d ≤ 100000) (hr : d % 360 = r) :
    Calls Tryd.prog 19 #[.int .i64 d] w fun e w' => e = .returned (.int .i64 r) ∧ w = w' := by
  have e1 : d.tmod 360 = r := by rw [Int.tmod_eq_emod_of_nonneg h0]; exact hr
  have hr0 : 0 ≤ r ∧ r < 360 := by omega
  have e2 : (r + 360).tmod 360 = r := by rw [Int.tmod_eq_emod_of_nonneg (by omega)]; omega
  obtain ⟨hr0, hr1⟩ := hr0
  clear hr
  go_enter Tryd.func19, Tryd.ntmps19
  go_wp2
  go_ret
  exact ⟨rfl, rfl⟩

theorem conv_zero : floatOfInt .f64 0 = 0 := by kernel_rfl
theorem conv_ninety : floatOfInt .f64 90 = 4636033603912859648 := by kernel_rfl

set_option maxHeartbeats 1000000 in
theorem mSin_zero (w : World) : Calls Tryd.prog 27 #[.float .f64 0] w fun e w' => e = .returned (.float .f64 0) ∧ w = w' := by
  go_enter Tryd.func27, Tryd.ntmps27
  go_wp2_with (go_at_call 32; refine (sin_zero _).mono ?_; rintro e w' ⟨rfl, rfl⟩)
  go_ret
  exact ⟨rfl, rfl⟩
set_option maxHeartbeats 1000000 in
theorem mSin_one (w : World) (hC : CosT w) : Calls Tryd.prog 27 #[.float .f64 4609753056924675352] w fun e w' => e = .returned (.float .f64 4607182418800017408) ∧ w = w' := by
  go_enter Tryd.func27, Tryd.ntmps27
  go_wp2_with (go_at_call 32; refine (sin_one _ hC).mono ?_; rintro e w' ⟨rfl, rfl⟩)
  go_ret
  exact ⟨rfl, rfl⟩

set_option maxRecDepth 100000 in
set_option maxHeartbeats 2000000 in
theorem sine0 (d : Int) (w : World) (h0 : 0 ≤ d) (h1 : d ≤ 1000) (hr : d % 360 = 0) : Calls Tryd.prog 20 #[.int .i64 d] w fun e w' => e = .returned (.int .i64 0) ∧ w = w' := by
  have fc := conv_zero
  have f1 : ∀ w : World, (binOp .mul 48 (.float .f64 0) (.float .f64 4614256656552045848)).run Tryd.prog w = .ok (.float .f64 0) w := fun w => run_float_arith w _ _ _ _ _ _ (by kernel_rfl)
  have f2 : ∀ w : World, (binOp .quo 48 (.float .f64 0) (.float .f64 4640537203540230144)).run Tryd.prog w = .ok (.float .f64 0) w := fun w => run_float_arith w _ _ _ _ _ _ (by kernel_rfl)
  have f3 : ∀ w : World, (binOp .mul 48 (.float .f64 4661225614328463360) (.float .f64 0)).run Tryd.prog w = .ok (.float .f64 0) w := fun w => run_float_arith w _ _ _ _ _ _ (by kernel_rfl)
  have f4 : ∀ w : World, (convert 48 3 (.float .f64 0)).run Tryd.prog w = .ok (.int .i64 0) w := fun w => run_convert_float_int w _ _ _ _ _ _ (by kernel_rfl) Tryd.underlying3 (by kernel_rfl)
  go_enter Tryd.func20, Tryd.ntmps20
  go_wp2_with (first | (go_at_call 19; refine (degrees_any d 0 _ h0 (by omega) hr).mono ?_; rintro e w' ⟨rfl, rfl⟩) | (go_at_call 27; refine (mSin_zero _).mono ?_; rintro e w' ⟨rfl, rfl⟩) | (go_at_call 26; refine (round_zero _).mono ?_; rintro e w' ⟨rfl, rfl⟩))
  go_ret
  exact ⟨rfl, rfl⟩

set_option maxRecDepth 100000 in
set_option maxHeartbeats 2000000 in
theorem sine1 (d : Int) (w : World) (h0 : 0 ≤ d) (h1 : d ≤ 1000) (hr : d % 360 = 90) (hC : CosT w) : Calls Tryd.prog 20 #[.int .i64 d] w fun e w' => e = .returned (.int .i64 4096) ∧ w = w' := by
  have fc := conv_ninety
  have f1 : ∀ w : World, (binOp .mul 48 (.float .f64 4636033603912859648) (.float .f64 4614256656552045848)).run Tryd.prog w = .ok (.float .f64 4643681689611005877) w := fun w => run_float_arith w _ _ _ _ _ _ (by kernel_rfl)
  have f2 : ∀ w : World, (binOp .quo 48 (.float .f64 4643681689611005877) (.float .f64 4640537203540230144)).run Tryd.prog w = .ok (.float .f64 4609753056924675352) w := fun w => run_float_arith w _ _ _ _ _ _ (by kernel_rfl)
  have f3 : ∀ w : World, (binOp .mul 48 (.float .f64 4661225614328463360) (.float .f64 4607182418800017408)).run Tryd.prog w = .ok (.float .f64 4661225614328463360) w := fun w => run_float_arith w _ _ _ _ _ _ (by kernel_rfl)
  have f4 : ∀ w : World, (convert 48 3 (.float .f64 4661225614328463360)).run Tryd.prog w = .ok (.int .i64 4096) w := fun w => run_convert_float_int w _ _ _ _ _ _ (by kernel_rfl) Tryd.underlying3 (by kernel_rfl)
  go_enter Tryd.func20, Tryd.ntmps20
  go_wp2_with (first | (go_at_call 19; refine (degrees_any d 90 _ h0 (by omega) hr).mono ?_; rintro e w' ⟨rfl, rfl⟩) | (go_at_call 27; refine (mSin_one _ hC).mono ?_; rintro e w' ⟨rfl, rfl⟩) | (go_at_call 26; refine (round_unit _).mono ?_; rintro e w' ⟨rfl, rfl⟩))
  go_ret
  exact ⟨rfl, rfl⟩

set_option maxRecDepth 100000 in
set_option maxHeartbeats 2000000 in
theorem sine2 (d : Int) (w : World) (h0 : 0 ≤ d) (h1 : d ≤ 1000) (hr : d % 360 = 180) : Calls Tryd.prog 20 #[.int .i64 d] w fun e w' => e = .returned (.int .i64 0) ∧ w = w' := by
  have fc := conv_zero
  have f1 : ∀ w : World, (binOp .mul 48 (.float .f64 0) (.float .f64 4614256656552045848)).run Tryd.prog w = .ok (.float .f64 0) w := fun w => run_float_arith w _ _ _ _ _ _ (by kernel_rfl)
  have f2 : ∀ w : World, (binOp .quo 48 (.float .f64 0) (.float .f64 4640537203540230144)).run Tryd.prog w = .ok (.float .f64 0) w := fun w => run_float_arith w _ _ _ _ _ _ (by kernel_rfl)
  have f3 : ∀ w : World, (binOp .mul 48 (.float .f64 4661225614328463360) (.float .f64 0)).run Tryd.prog w = .ok (.float .f64 0) w := fun w => run_float_arith w _ _ _ _ _ _ (by kernel_rfl)
  have f4 : ∀ w : World, (convert 48 3 (.float .f64 0)).run Tryd.prog w = .ok (.int .i64 0) w := fun w => run_convert_float_int w _ _ _ _ _ _ (by kernel_rfl) Tryd.underlying3 (by kernel_rfl)
  go_enter Tryd.func20, Tryd.ntmps20
  go_wp2_with (first | (go_at_call 19; refine (degrees_any d 180 _ h0 (by omega) hr).mono ?_; rintro e w' ⟨rfl, rfl⟩) | (go_at_call 27; refine (mSin_zero _).mono ?_; rintro e w' ⟨rfl, rfl⟩) | (go_at_call 26; refine (round_zero _).mono ?_; rintro e w' ⟨rfl, rfl⟩))
  go_ret
  exact ⟨rfl, rfl⟩

set_option maxRecDepth 100000 in
set_option maxHeartbeats 2000000 in
theorem sine3 (d : Int) (w : World) (h0 : 0 ≤ d) (h1 : d ≤ 1000) (hr : d % 360 = 270) (hC : CosT w) : Calls Tryd.prog 20 #[.int .i64 d] w fun e w' => e = .returned (.int .i64 (-4096)) ∧ w = w' := by
  have fc := conv_ninety
  have f1 : ∀ w : World, (binOp .mul 48 (.float .f64 4636033603912859648) (.float .f64 4614256656552045848)).run Tryd.prog w = .ok (.float .f64 4643681689611005877) w := fun w => run_float_arith w _ _ _ _ _ _ (by kernel_rfl)
  have f2 : ∀ w : World, (binOp .quo 48 (.float .f64 4643681689611005877) (.float .f64 4640537203540230144)).run Tryd.prog w = .ok (.float .f64 4609753056924675352) w := fun w => run_float_arith w _ _ _ _ _ _ (by kernel_rfl)
  have f3 : ∀ w : World, (binOp .mul 48 (.float .f64 4661225614328463360) (.float .f64 4607182418800017408)).run Tryd.prog w = .ok (.float .f64 4661225614328463360) w := fun w => run_float_arith w _ _ _ _ _ _ (by kernel_rfl)
  have f4 : ∀ w : World, (convert 48 3 (.float .f64 4661225614328463360)).run Tryd.prog w = .ok (.int .i64 4096) w := fun w => run_convert_float_int w _ _ _ _ _ _ (by kernel_rfl) Tryd.underlying3 (by kernel_rfl)
  go_enter Tryd.func20, Tryd.ntmps20
  go_wp2_with (first | (go_at_call 19; refine (degrees_any d 270 _ h0 (by omega) hr).mono ?_; rintro e w' ⟨rfl, rfl⟩) | (go_at_call 27; refine (mSin_one _ hC).mono ?_; rintro e w' ⟨rfl, rfl⟩) | (go_at_call 26; refine (round_unit _).mono ?_; rintro e w' ⟨rfl, rfl⟩))
  go_ret
  exact ⟨rfl, rfl⟩

end Go.Proofs.YtnanipehcikcjaaDoor
