/-
  Contracts of the functions that draw the arguments of the laws on contact. Conditions: those that each theorem states.
-/
import Derived.Test.YtjklepabliehdaaPs
import Derived.Deep.RegionWith
namespace Go.Proofs.Ytjklepabliehdaa
open Go.RowKit

def CtD (p w k : Int) : Prop := (-100 ≤ p ∧ p ≤ 20000) ∧ (-30 ≤ w ∧ w ≤ 29) ∧ 0 ≤ k ∧ k ≤ 101

set_option maxHeartbeats 40000000 in
theorem drawContactForce_any (a : Option Addr) (n c : Nat) (w : World) (hb : Bytes w w.heap.size a n) (hnc : n ≤ c) (hcm : c ≤ maxLen) :
    Calls Try.prog 15 #[.slice a n c] w fun e w' => ∃ x y q, CtD x y q ∧ e = .returned (.tuple #[.int .i64 x, .int .i64 y, .int .i64 q]) ∧ Up w w' := by
  go_enter Try.func15, Try.ntmps15
  go_wp2_with (first | (go_at_call 39; apply Calls.mono; (focus (apply open_any; (focus (apply Bytes.later hb; repeat (first | with_reducible exact Below.refl _ _ | with_reducible apply below_alloc | with_reducible apply below_drw | with_reducible apply below_drew | with_reducible apply below_drewN | with_reducible apply below_plus | with_reducible apply below_set | (simp; done)))); exact hnc; exact hcm)); rintro e w1 ⟨n1, c1, hs1, hB1, rfl, rfl⟩) | (go_at_call 40; apply Calls.mono; (focus (apply pick_any; (focus (repeat (first | with_reducible exact hr | (with_reducible apply Rd.base_at hs1 hB1; simp; done) | with_reducible apply Rd.plus | with_reducible apply Rd.drew | with_reducible apply Rd.drewN | with_reducible apply Rd.drw | with_reducible apply Rd.alloc | with_reducible apply Rd.set))); all_goals omega)); rintro e w1 ⟨x, d, hx0, hx1, rfl, rfl⟩))
  go_region_with (first | (go_at_call 40; apply Calls.mono; (focus (with_reducible apply pick_any (m := 40); (focus (repeat (first | with_reducible exact hr | (with_reducible apply Rd.base_at hs1 hB1; simp; done) | with_reducible apply Rd.plus | with_reducible apply Rd.drew | with_reducible apply Rd.drewN | with_reducible apply Rd.drw | with_reducible apply Rd.alloc | with_reducible apply Rd.set))); all_goals omega)); rintro e w1 ⟨x1, d, hx10, hx11, rfl, rfl⟩; have := IntWalk.i64_in (x - 30 + x1) (by omega);have := IntWalk.i64_in (x - 30 + x1 - 20) (by omega);have := IntWalk.i64_in (1 + x1) (by omega)) | (go_at_call 40; apply Calls.mono; (focus (with_reducible apply pick_any (m := 14); (focus (repeat (first | with_reducible exact hr | (with_reducible apply Rd.base_at hs1 hB1; simp; done) | with_reducible apply Rd.plus | with_reducible apply Rd.drew | with_reducible apply Rd.drewN | with_reducible apply Rd.drw | with_reducible apply Rd.alloc | with_reducible apply Rd.set))); all_goals omega)); rintro e w1 ⟨x2, d, hx20, hx21, rfl, rfl⟩; have := IntWalk.i64_quo x2 13 (by omega);have := IntWalk.i64_in (x2 / 13 * 10000) (by omega);have := IntWalk.i64_in (x - 30 + x1 - 20 + x2 / 13 * 10000) (by omega)) | (go_at_call 40; apply Calls.mono; (focus (with_reducible apply pick_any (m := 7); (focus (repeat (first | with_reducible exact hr | (with_reducible apply Rd.base_at hs1 hB1; simp; done) | with_reducible apply Rd.plus | with_reducible apply Rd.drew | with_reducible apply Rd.drewN | with_reducible apply Rd.drw | with_reducible apply Rd.alloc | with_reducible apply Rd.set))); all_goals omega)); rintro e w1 ⟨x3, d, hx30, hx31, rfl, rfl⟩; obtain ⟨y3, hy0, hy1, hy⟩ := sel_list [0, 0, 0, 0, 1, 2, 3] 0 3 (by simp) x3 hx30 hx31; simp only [List.map] at hy; obtain ⟨z3, hz0, hz1, hz⟩ := sel_list [1 + x1, 0, 101, 100] 0 101 (by simp; omega) y3 hy0 (by simp; omega); simp only [List.map] at hz))
  all_goals
    go_wp2
    go_ret3
    refine ⟨_, _, _, ?_, rfl, up_of_below ?_⟩
    · unfold CtD; omega
    · repeat (first | with_reducible exact Below.refl _ _ | with_reducible apply below_alloc | with_reducible apply below_drw | with_reducible apply below_drew | with_reducible apply below_drewN | with_reducible apply below_plus | with_reducible apply below_set | (simp; done))

end Go.Proofs.Ytjklepabliehdaa
