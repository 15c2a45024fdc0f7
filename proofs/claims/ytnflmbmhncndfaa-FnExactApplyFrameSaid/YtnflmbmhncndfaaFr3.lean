/-
  The walks of the exact laws of composition and application. No condition.
-/
import Derived.Test.YtnflmbmhncndfaaFr2
import Derived.Deep.RegionHeld3
namespace Go.Proofs.Ytnflmbmhncndfaa
open Go.RowKit

set_option maxHeartbeats 2000000 in
theorem exactComposeFrames_any (x y q x' y' q' : Int) (w : World) :
    Calls Try.prog 6 #[.agg #[.int .i64 x, .int .i64 y, .int .i64 q], .agg #[.int .i64 x', .int .i64 y', .int .i64 q']] w fun e w' => e = .returned (.bool true) ∧ Up w w' := by
  go_enter Try.func6, Try.ntmps6
  go_wp2
  go_region_held3 (fun W => W.cell? ⟨w.heap.size, 0, none⟩ = some (.int .i64 x) ∧ W.cell? ⟨w.heap.size, 1, none⟩ = some (.int .i64 y) ∧ W.cell? ⟨w.heap.size, 2, none⟩ = some (.int .i64 q) ∧ W.cell? ⟨w.heap.size + 1, 0, none⟩ = some (.int .i64 x') ∧ W.cell? ⟨w.heap.size + 1, 1, none⟩ = some (.int .i64 y') ∧ W.cell? ⟨w.heap.size + 1, 2, none⟩ = some (.int .i64 q')) (simp [go_sem]) (first | (go_at_call 14; refine (toFrame_any _ _ _ _).mono ?_; rintro e w1 ⟨rfl, os, d, rfl⟩) | (go_at_call 20; refine (sCompose_any _ _ _ _ _ _ _).mono ?_; rintro e w1 ⟨rfl, os, d, rfl⟩) | (go_at_call 21; refine (compose_any _ _ _ _ _ _ _).mono ?_; rintro e w1 ⟨rfl, os, d, rfl⟩) | (go_at_call 19; refine (eqFrame_any _ _ _ _ _ _ _ rfl rfl rfl).mono ?_; rintro e w1 ⟨rfl, os, d, rfl⟩))
  all_goals
    go_wp2
    go_region_held3 (fun W => W.cell? ⟨w.heap.size, 0, none⟩ = some (.int .i64 x) ∧ W.cell? ⟨w.heap.size, 1, none⟩ = some (.int .i64 y) ∧ W.cell? ⟨w.heap.size, 2, none⟩ = some (.int .i64 q) ∧ W.cell? ⟨w.heap.size + 1, 0, none⟩ = some (.int .i64 x') ∧ W.cell? ⟨w.heap.size + 1, 1, none⟩ = some (.int .i64 y') ∧ W.cell? ⟨w.heap.size + 1, 2, none⟩ = some (.int .i64 q')) (simp [go_sem]) (first | (go_at_call 14; refine (toFrame_any _ _ _ _).mono ?_; rintro e w1 ⟨rfl, os, d, rfl⟩) | (go_at_call 20; refine (sCompose_any _ _ _ _ _ _ _).mono ?_; rintro e w1 ⟨rfl, os, d, rfl⟩) | (go_at_call 21; refine (compose_any _ _ _ _ _ _ _).mono ?_; rintro e w1 ⟨rfl, os, d, rfl⟩) | (go_at_call 19; refine (eqFrame_any _ _ _ _ _ _ _ rfl rfl rfl).mono ?_; rintro e w1 ⟨rfl, os, d, rfl⟩))
    all_goals
      go_wp2_with (first | (go_at_call 14; refine (toFrame_any _ _ _ _).mono ?_; rintro e w1 ⟨rfl, os, d, rfl⟩) | (go_at_call 20; refine (sCompose_any _ _ _ _ _ _ _).mono ?_; rintro e w1 ⟨rfl, os, d, rfl⟩) | (go_at_call 21; refine (compose_any _ _ _ _ _ _ _).mono ?_; rintro e w1 ⟨rfl, os, d, rfl⟩) | (go_at_call 19; refine (eqFrame_any _ _ _ _ _ _ _ rfl rfl rfl).mono ?_; rintro e w1 ⟨rfl, os, d, rfl⟩))
      go_ret
      exact ⟨rfl, up_of_below (by repeat (first | with_reducible exact Below.refl _ _ | with_reducible apply below_alloc | with_reducible apply below_drw | with_reducible apply below_drew | with_reducible apply below_drewN | with_reducible apply below_plus | with_reducible apply below_set | (simp; done)))⟩

set_option maxHeartbeats 2000000 in
theorem exactApplyFrame_any (x y q x' y' : Int) (w : World) :
    Calls Try.prog 7 #[.agg #[.int .i64 x, .int .i64 y, .int .i64 q], .agg #[.int .i64 x', .int .i64 y']] w fun e w' => e = .returned (.bool true) ∧ Up w w' := by
  go_enter Try.func7, Try.ntmps7
  go_wp2
  go_region_held3 (fun W => W.cell? ⟨w.heap.size, 0, none⟩ = some (.int .i64 x) ∧ W.cell? ⟨w.heap.size, 1, none⟩ = some (.int .i64 y) ∧ W.cell? ⟨w.heap.size, 2, none⟩ = some (.int .i64 q) ∧ W.cell? ⟨w.heap.size + 1, 0, none⟩ = some (.int .i64 x') ∧ W.cell? ⟨w.heap.size + 1, 1, none⟩ = some (.int .i64 y')) (simp [go_sem]) (first | (go_at_call 14; refine (toFrame_any _ _ _ _).mono ?_; rintro e w1 ⟨rfl, os, d, rfl⟩) | (go_at_call 23; refine (toPoint_any _ _ _).mono ?_; rintro e w1 ⟨rfl, os, d, rfl⟩) | (go_at_call 22; refine (sApply_any _ _ _ _ _ _).mono ?_; rintro e w1 ⟨rfl, os, d, rfl⟩) | (go_at_call 24; refine (apply_any _ _ _ _ _ _).mono ?_; rintro e w1 ⟨rfl, os, d, rfl⟩) | (go_at_call 25; refine (eqPoint_any _ _ _ _ _ rfl rfl).mono ?_; rintro e w1 ⟨rfl, os, d, rfl⟩))
  all_goals
    go_wp2
    go_region_held3 (fun W => W.cell? ⟨w.heap.size, 0, none⟩ = some (.int .i64 x) ∧ W.cell? ⟨w.heap.size, 1, none⟩ = some (.int .i64 y) ∧ W.cell? ⟨w.heap.size, 2, none⟩ = some (.int .i64 q) ∧ W.cell? ⟨w.heap.size + 1, 0, none⟩ = some (.int .i64 x') ∧ W.cell? ⟨w.heap.size + 1, 1, none⟩ = some (.int .i64 y')) (simp [go_sem]) (first | (go_at_call 14; refine (toFrame_any _ _ _ _).mono ?_; rintro e w1 ⟨rfl, os, d, rfl⟩) | (go_at_call 23; refine (toPoint_any _ _ _).mono ?_; rintro e w1 ⟨rfl, os, d, rfl⟩) | (go_at_call 22; refine (sApply_any _ _ _ _ _ _).mono ?_; rintro e w1 ⟨rfl, os, d, rfl⟩) | (go_at_call 24; refine (apply_any _ _ _ _ _ _).mono ?_; rintro e w1 ⟨rfl, os, d, rfl⟩) | (go_at_call 25; refine (eqPoint_any _ _ _ _ _ rfl rfl).mono ?_; rintro e w1 ⟨rfl, os, d, rfl⟩))
    all_goals
      go_wp2_with (first | (go_at_call 14; refine (toFrame_any _ _ _ _).mono ?_; rintro e w1 ⟨rfl, os, d, rfl⟩) | (go_at_call 23; refine (toPoint_any _ _ _).mono ?_; rintro e w1 ⟨rfl, os, d, rfl⟩) | (go_at_call 22; refine (sApply_any _ _ _ _ _ _).mono ?_; rintro e w1 ⟨rfl, os, d, rfl⟩) | (go_at_call 24; refine (apply_any _ _ _ _ _ _).mono ?_; rintro e w1 ⟨rfl, os, d, rfl⟩) | (go_at_call 25; refine (eqPoint_any _ _ _ _ _ rfl rfl).mono ?_; rintro e w1 ⟨rfl, os, d, rfl⟩))
      go_ret
      exact ⟨rfl, up_of_below (by repeat (first | with_reducible exact Below.refl _ _ | with_reducible apply below_alloc | with_reducible apply below_drw | with_reducible apply below_drew | with_reducible apply below_drewN | with_reducible apply below_plus | with_reducible apply below_set | (simp; done)))⟩

end Go.Proofs.Ytnflmbmhncndfaa
