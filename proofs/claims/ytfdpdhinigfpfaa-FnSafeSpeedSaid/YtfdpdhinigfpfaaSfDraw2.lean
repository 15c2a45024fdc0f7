/-
  The contract of the function that draws the arguments of the law on safe speeds. Conditions: those that the theorem states.
-/
import Derived.Test.YtfdpdhinigfpfaaSfDraw
import Derived.Deep.RegionWith
namespace Go.Proofs.Ytfdpdhinigfpfaa
open Go.RowKit

set_option maxHeartbeats 40000000 in
theorem drawSafe_any (a : Option Addr) (n c : Nat) (w : World) (hb : Bytes w w.heap.size a n) (hnc : n ≤ c) (hcm : c ≤ maxLen) :
    Calls Try.prog 19 #[.slice a n c] w fun e w' => ∃ d r m, (-1 ≤ d ∧ d ≤ 5001) ∧ (0 ≤ r ∧ r ≤ 51) ∧ (-1 ≤ m ∧ m ≤ 59) ∧ e = .returned (.tuple #[.int .i64 d, .int .i64 r, .int .i64 m]) ∧ Up w w' := by
  go_enter Try.func19, Try.ntmps19
  go_wp2_with (first | (go_at_call 39; apply Calls.mono; (focus (apply open_any; (focus (apply Bytes.later hb; repeat (first | with_reducible exact Below.refl _ _ | with_reducible apply below_alloc | with_reducible apply below_drw | with_reducible apply below_drew | with_reducible apply below_drewN | with_reducible apply below_plus | with_reducible apply below_set | (simp; done)))); exact hnc; exact hcm)); rintro e w1 ⟨n1, c1, hs1, hB1, rfl, rfl⟩) | (go_at_call 41; apply Calls.mono; (focus (apply l20Rise_any; (focus (repeat (first | with_reducible exact hr | (with_reducible apply Rd.base_at hs1 hB1; simp; done) | with_reducible apply Rd.plus | with_reducible apply Rd.drew | with_reducible apply Rd.drewN | with_reducible apply Rd.drw | with_reducible apply Rd.alloc | with_reducible apply Rd.set))); all_goals omega)); rintro e w1 ⟨r, hr0, hr1, rfl, p', hp0, hp1, os, d, rfl⟩) | (go_at_call 43; apply Calls.mono; (focus (apply l20Far_any; (focus (repeat (first | with_reducible exact hr | (with_reducible apply Rd.base_at hs1 hB1; simp; done) | with_reducible apply Rd.plus | with_reducible apply Rd.drew | with_reducible apply Rd.drewN | with_reducible apply Rd.drw | with_reducible apply Rd.alloc | with_reducible apply Rd.set))); all_goals omega)); rintro e w1 ⟨f, hf0, hf1, rfl, p', hp0, hp1, os, d, rfl⟩))
  go_region_with (first | (go_at_call 40; apply Calls.mono; (focus (with_reducible apply pick_any (m := 60); (focus (repeat (first | with_reducible exact hr | (with_reducible apply Rd.base_at hs1 hB1; simp; done) | with_reducible apply Rd.plus | with_reducible apply Rd.drew | with_reducible apply Rd.drewN | with_reducible apply Rd.drw | with_reducible apply Rd.alloc | with_reducible apply Rd.set))); all_goals omega)); rintro e w1 ⟨x1, d, hx10, hx11, rfl, rfl⟩) | (go_at_call 40; apply Calls.mono; (focus (with_reducible apply pick_any (m := 5); (focus (repeat (first | with_reducible exact hr | (with_reducible apply Rd.base_at hs1 hB1; simp; done) | with_reducible apply Rd.plus | with_reducible apply Rd.drew | with_reducible apply Rd.drewN | with_reducible apply Rd.drw | with_reducible apply Rd.alloc | with_reducible apply Rd.set))); all_goals omega)); rintro e w1 ⟨x2, d, hx20, hx21, rfl, rfl⟩; obtain ⟨y2, hy0, hy1, hy⟩ := sel_list [0, 0, 1, 1, 2] 0 2 (by simp) x2 hx20 hx21; simp only [List.map] at hy; obtain ⟨z2, hz0, hz1, hz⟩ := sel_list [x1, 0, -1] (-1) 59 (by simp; omega) y2 hy0 (by simp; omega); simp only [List.map] at hz; have hyn : y2.toNat < 3 := by omega))
  all_goals
    go_wp2
    go_ret3
    refine ⟨_, _, _, ?_, ?_, ?_, rfl, up_of_below ?_⟩
    · omega
    · omega
    · omega
    · repeat (first | with_reducible exact Below.refl _ _ | with_reducible apply below_alloc | with_reducible apply below_drw | with_reducible apply below_drew | with_reducible apply below_drewN | with_reducible apply below_plus | with_reducible apply below_set | (simp; done))

end Go.Proofs.Ytfdpdhinigfpfaa
