/-
  The contracts of Go's sine and rounding at the numbers that quarter turns come to; of what the program makes of them. Conditions: those that each theorem states.
-/
import Derived.Test.YtnanipehcikcjaaDoorRoF
import Derived.Laws.FloatArith
namespace Go.Proofs.YtnanipehcikcjaaDoor
open Go.RowKit
set_option linter.unusedVariables false

/-- The listed table of the cosine's numbers. -/
def CosT (w : World) : Prop := w.cell? ⟨1, 0, none⟩ = some (.float .f64 13666448263388469915) ∧ w.cell? ⟨1, 1, none⟩ = some (.float .f64 4477121864728985349) ∧ w.cell? ⟨1, 2, none⟩ = some (.float .f64 13732177093698800582) ∧ w.cell? ⟨1, 3, none⟩ = some (.float .f64 4537941361668146421) ∧ w.cell? ⟨1, 4, none⟩ = some (.float .f64 13787419979223748497) ∧ w.cell? ⟨1, 5, none⟩ = some (.float .f64 4586165620538955083)
theorem CosT.blocks {w w' : World} (h : CosT w) (hb : w'.heap[1]? = w.heap[1]?) : CosT w' := by
  obtain ⟨h0, h1, h2, h3, h4, h5⟩ := h
  exact ⟨(World.cell?_of_block (w := w) (a := ⟨1, 0, none⟩) hb).trans h0, (World.cell?_of_block (w := w) (a := ⟨1, 1, none⟩) hb).trans h1, (World.cell?_of_block (w := w) (a := ⟨1, 2, none⟩) hb).trans h2, (World.cell?_of_block (w := w) (a := ⟨1, 3, none⟩) hb).trans h3, (World.cell?_of_block (w := w) (a := ⟨1, 4, none⟩) hb).trans h4, (World.cell?_of_block (w := w) (a := ⟨1, 5, none⟩) hb).trans h5⟩

set_option maxRecDepth 100000 in
set_option maxHeartbeats 1000000 in
theorem isNaN_any (w : World) : Calls Tryd.prog 33 #[.float .f64 4609753056924675352] w fun e w' => e = .returned (.bool false) ∧ w = w' := by
  have f0 : ∀ w : World, (binOp .neq 48 (.float .f64 4609753056924675352) (.float .f64 4609753056924675352)).run Tryd.prog w = .ok (.bool false) w := fun w => by kernel_rfl
  go_enter Tryd.func33, Tryd.ntmps33
  go_wp2
  go_ret
  exact ⟨rfl, rfl⟩

set_option maxRecDepth 100000 in
set_option maxHeartbeats 1000000 in
theorem fabs_any (w : World) : Calls Tryd.prog 37 #[.float .f64 4609753056924675352] w fun e w' => e = .returned (.float .f64 4609753056924675352) ∧ w = w' := by
  have f0 : ∀ w : World, (callFunc 29 #[.float .f64 4609753056924675352]).run Tryd.prog w = .ok (.value (.int .u64 4609753056924675352)) w := fun w => by kernel_rfl
  have f1 : ∀ w : World, (callFunc 30 #[.int .u64 4609753056924675352]).run Tryd.prog w = .ok (.value (.float .f64 4609753056924675352)) w := fun w => by kernel_rfl
  have b0 : bits .andNot .u64 4609753056924675352 9223372036854775808 = 4609753056924675352 := by kernel_rfl
  go_enter Tryd.func37, Tryd.ntmps37
  go_wp2
  go_ret
  exact ⟨rfl, rfl⟩

set_option maxRecDepth 100000 in
set_option maxHeartbeats 1000000 in
theorem isInf_any (w : World) : Calls Tryd.prog 34 #[.float .f64 4609753056924675352, .int .i64 0] w fun e w' => e = .returned (.bool false) ∧ w = w' := by
  have f0 : ∀ w : World, (binOp .gtr 48 (.float .f64 4609753056924675352) (.float .f64 9218868437227405311)).run Tryd.prog w = .ok (.bool false) w := fun w => by kernel_rfl
  go_enter Tryd.func34, Tryd.ntmps34
  go_wp2_with (go_at_call 37; refine (fabs_any _).mono ?_; rintro e w' ⟨rfl, rfl⟩)
  go_ret
  exact ⟨rfl, rfl⟩

set_option maxRecDepth 100000 in
set_option maxHeartbeats 1000000 in
theorem round_zero (w : World) : Calls Tryd.prog 26 #[.float .f64 0] w fun e w' => e = .returned (.float .f64 0) ∧ w = w' := by
  have f0 : ∀ w : World, (callFunc 29 #[.float .f64 0]).run Tryd.prog w = .ok (.value (.int .u64 0)) w := fun w => by kernel_rfl
  have f1 : ∀ w : World, (callFunc 30 #[.int .u64 0]).run Tryd.prog w = .ok (.value (.float .f64 0)) w := fun w => by kernel_rfl
  have b0 : bits .and .u64 0 9223372036854775808 = 0 := by kernel_rfl
  have b1 : bits .and .u64 0 2047 = 0 := by kernel_rfl
  go_enter Tryd.func26, Tryd.ntmps26
  go_wp2
  go_ret
  exact ⟨rfl, rfl⟩

set_option maxRecDepth 100000 in
set_option maxHeartbeats 1000000 in
theorem round_unit (w : World) : Calls Tryd.prog 26 #[.float .f64 4661225614328463360] w fun e w' => e = .returned (.float .f64 4661225614328463360) ∧ w = w' := by
  have f0 : ∀ w : World, (callFunc 29 #[.float .f64 4661225614328463360]).run Tryd.prog w = .ok (.value (.int .u64 4661225614328463360)) w := fun w => by kernel_rfl
  have f1 : ∀ w : World, (callFunc 30 #[.int .u64 4661225614328463360]).run Tryd.prog w = .ok (.value (.float .f64 4661225614328463360)) w := fun w => by kernel_rfl
  have b0 : bits .and .u64 1035 2047 = 1035 := by kernel_rfl
  have b1 : bits .andNot .u64 4661226164084277248 1099511627775 = 4661225614328463360 := by kernel_rfl
  have b2 : IntKind.u64.wrap 4661226164084277248 = 4661226164084277248 := by kernel_rfl
  go_enter Tryd.func26, Tryd.ntmps26
  go_wp2
  go_ret
  exact ⟨rfl, rfl⟩

set_option maxRecDepth 100000 in
set_option maxHeartbeats 1000000 in
theorem sin_zero (w : World) : Calls Tryd.prog 32 #[.float .f64 0] w fun e w' => e = .returned (.float .f64 0) ∧ w = w' := by
  have f0 : ∀ w : World, (binOp .eql 48 (.float .f64 0) (.float .f64 0)).run Tryd.prog w = .ok (.bool true) w := fun w => by kernel_rfl
  go_enter Tryd.func32, Tryd.ntmps32
  go_wp2
  go_ret
  exact ⟨rfl, rfl⟩

theorem conv_two : floatOfInt .f64 2 = 4611686018427387904 := by kernel_rfl
set_option maxRecDepth 100000 in
set_option maxHeartbeats 4000000 in
theorem sin_one (w : World) (hC : CosT w) : Calls Tryd.prog 32 #[.float .f64 4609753056924675352] w fun e w' => e = .returned (.float .f64 4607182418800017408) ∧ w = w' := by
  obtain ⟨c0, c1, c2, c3, c4, c5⟩ := hC
  have f0 : ∀ w : World, (binOp .eql 48 (.float .f64 4609753056924675352) (.float .f64 0)).run Tryd.prog w = .ok (.bool false) w := fun w => by kernel_rfl
  have f1 : ∀ w : World, (binOp .lss 48 (.float .f64 4609753056924675352) (.float .f64 0)).run Tryd.prog w = .ok (.bool false) w := fun w => by kernel_rfl
  have f2 : ∀ w : World, (binOp .geq 48 (.float .f64 4609753056924675352) (.float .f64 4737786807993761792)).run Tryd.prog w = .ok (.bool false) w := fun w => by kernel_rfl
  have f3 : ∀ w : World, (binOp .mul 48 (.float .f64 4609753056924675352) (.float .f64 4608412980311869571)).run Tryd.prog w = .ok (.float .f64 4611686018427387904) w := fun w => run_float_arith w _ _ _ _ _ _ (by kernel_rfl)
  have f4 : ∀ w : World, (convert 48 50 (.float .f64 4611686018427387904)).run Tryd.prog w = .ok (.int .u64 2) w := fun w => run_convert_float_int w _ _ _ _ _ _ (by kernel_rfl) Tryd.underlying50 (by kernel_rfl)
  have f5 : ∀ w : World, (convert 50 48 (.int .u64 2)).run Tryd.prog w = .ok (.float .f64 4611686018427387904) w := fun w => by kernel_rfl
  have f6 : ∀ w : World, (binOp .mul 48 (.float .f64 4611686018427387904) (.float .f64 4605249456957292544)).run Tryd.prog w = .ok (.float .f64 4609753056584663040) w := fun w => run_float_arith w _ _ _ _ _ _ (by kernel_rfl)
  have f7 : ∀ w : World, (binOp .sub 48 (.float .f64 4609753056924675352) (.float .f64 4609753056584663040)).run Tryd.prog w = .ok (.float .f64 4500296888116838400) w := fun w => run_float_arith w _ _ _ _ _ _ (by kernel_rfl)
  have f8 : ∀ w : World, (binOp .mul 48 (.float .f64 4611686018427387904) (.float .f64 4495793288086814720)).run Tryd.prog w = .ok (.float .f64 4500296887714185216) w := fun w => run_float_arith w _ _ _ _ _ _ (by kernel_rfl)
  have f9 : ∀ w : World, (binOp .sub 48 (.float .f64 4500296888116838400) (.float .f64 4500296887714185216)).run Tryd.prog w = .ok (.float .f64 4393261436499918848) w := fun w => run_float_arith w _ _ _ _ _ _ (by kernel_rfl)
  have f10 : ∀ w : World, (binOp .mul 48 (.float .f64 4611686018427387904) (.float .f64 4388835458085048688)).run Tryd.prog w = .ok (.float .f64 4393339057712419184) w := fun w => run_float_arith w _ _ _ _ _ _ (by kernel_rfl)
  have f11 : ∀ w : World, (binOp .sub 48 (.float .f64 4393261436499918848) (.float .f64 4393339057712419184)).run Tryd.prog w = .ok (.float .f64 13587824233749437440) w := fun w => run_float_arith w _ _ _ _ _ _ (by kernel_rfl)
  have f12 : ∀ w : World, (binOp .mul 48 (.float .f64 13587824233749437440) (.float .f64 13587824233749437440)).run Tryd.prog w = .ok (.float .f64 4121769812861541689) w := fun w => run_float_arith w _ _ _ _ _ _ (by kernel_rfl)
  have f13 : ∀ w : World, (binOp .mul 48 (.float .f64 4602678819172646912) (.float .f64 4121769812861541689)).run Tryd.prog w = .ok (.float .f64 4117266213234171193) w := fun w => run_float_arith w _ _ _ _ _ _ (by kernel_rfl)
  have f14 : ∀ w : World, (binOp .sub 48 (.float .f64 4607182418800017408) (.float .f64 4117266213234171193)).run Tryd.prog w = .ok (.float .f64 4607182418800017408) w := fun w => run_float_arith w _ _ _ _ _ _ (by kernel_rfl)
  have f15 : ∀ w : World, (binOp .mul 48 (.float .f64 4121769812861541689) (.float .f64 4121769812861541689)).run Tryd.prog w = .ok (.float .f64 3636568787959200408) w := fun w => run_float_arith w _ _ _ _ _ _ (by kernel_rfl)
  have f16 : ∀ w : World, (binOp .mul 48 (.float .f64 13666448263388469915) (.float .f64 4121769812861541689)).run Tryd.prog w = .ok (.float .f64 13181583382601374726) w := fun w => run_float_arith w _ _ _ _ _ _ (by kernel_rfl)
  have f17 : ∀ w : World, (binOp .add 48 (.float .f64 13181583382601374726) (.float .f64 4477121864728985349)).run Tryd.prog w = .ok (.float .f64 4477121864728985349) w := fun w => run_float_arith w _ _ _ _ _ _ (by kernel_rfl)
  have f18 : ∀ w : World, (binOp .mul 48 (.float .f64 4477121864728985349) (.float .f64 4121769812861541689)).run Tryd.prog w = .ok (.float .f64 3991827134884094964) w := fun w => run_float_arith w _ _ _ _ _ _ (by kernel_rfl)
  have f19 : ∀ w : World, (binOp .add 48 (.float .f64 3991827134884094964) (.float .f64 13732177093698800582)).run Tryd.prog w = .ok (.float .f64 13732177093698800582) w := fun w => run_float_arith w _ _ _ _ _ _ (by kernel_rfl)
  have f20 : ∀ w : World, (binOp .mul 48 (.float .f64 13732177093698800582) (.float .f64 4121769812861541689)).run Tryd.prog w = .ok (.float .f64 13246916609161043028) w := fun w => run_float_arith w _ _ _ _ _ _ (by kernel_rfl)
  have f21 : ∀ w : World, (binOp .add 48 (.float .f64 13246916609161043028) (.float .f64 4537941361668146421)).run Tryd.prog w = .ok (.float .f64 4537941361668146421) w := fun w => run_float_arith w _ _ _ _ _ _ (by kernel_rfl)
  have f22 : ∀ w : World, (binOp .mul 48 (.float .f64 4537941361668146421) (.float .f64 4121769812861541689)).run Tryd.prog w = .ok (.float .f64 4053139239227443128) w := fun w => run_float_arith w _ _ _ _ _ _ (by kernel_rfl)
  have f23 : ∀ w : World, (binOp .add 48 (.float .f64 4053139239227443128) (.float .f64 13787419979223748497)).run Tryd.prog w = .ok (.float .f64 13787419979223748497) w := fun w => run_float_arith w _ _ _ _ _ _ (by kernel_rfl)
  have f24 : ∀ w : World, (binOp .mul 48 (.float .f64 13787419979223748497) (.float .f64 4121769812861541689)).run Tryd.prog w = .ok (.float .f64 13302419527119342732) w := fun w => run_float_arith w _ _ _ _ _ _ (by kernel_rfl)
  have f25 : ∀ w : World, (binOp .add 48 (.float .f64 13302419527119342732) (.float .f64 4586165620538955083)).run Tryd.prog w = .ok (.float .f64 4586165620538955083) w := fun w => run_float_arith w _ _ _ _ _ _ (by kernel_rfl)
  have f26 : ∀ w : World, (binOp .mul 48 (.float .f64 3636568787959200408) (.float .f64 4586165620538955083)).run Tryd.prog w = .ok (.float .f64 3616273285921874790) w := fun w => run_float_arith w _ _ _ _ _ _ (by kernel_rfl)
  have f27 : ∀ w : World, (binOp .add 48 (.float .f64 4607182418800017408) (.float .f64 3616273285921874790)).run Tryd.prog w = .ok (.float .f64 4607182418800017408) w := fun w => run_float_arith w _ _ _ _ _ _ (by kernel_rfl)
  have fc := conv_two
  go_enter Tryd.func32, Tryd.ntmps32
  go_wp2_with (first | (go_at_call 33; refine (isNaN_any _).mono ?_; rintro e w' ⟨rfl, rfl⟩) | (go_at_call 34; refine (isInf_any _).mono ?_; rintro e w' ⟨rfl, rfl⟩))
  go_ret
  exact ⟨rfl, rfl⟩

end Go.Proofs.YtnanipehcikcjaaDoor
