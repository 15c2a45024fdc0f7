/-
  Contracts of the functions that draw the arguments of the laws on contact. Conditions: those that each theorem states.
-/
import Derived.Test.YtjklepabliehdaaShape3
namespace Go.Proofs.Ytjklepabliehdaa
open Go.RowKit

def CtD (p w k : Int) : Prop := (-100 ≤ p ∧ p ≤ 20000) ∧ (-30 ≤ w ∧ w ≤ 29) ∧ 0 ≤ k ∧ k ≤ 101

set_option maxHeartbeats 4000000 in
theorem drawContactForce_any (a : Option Addr) (n c : Nat) (w : World) (hb : Bytes w w.heap.size a n) (hnc : n ≤ c) (hcm : c ≤ maxLen) :
    Calls Try.prog 15 #[.slice a n c] w fun e w' => ∃ x y q, CtD x y q ∧ e = .returned (.tuple #[.int .i64 x, .int .i64 y, .int .i64 q]) ∧ Up w w' := by
  go_enter Try.func15, Try.ntmps15
  go_wp2_with (first | (go_at_call 39; apply Calls.mono; (focus (apply open_any; (focus (apply Bytes.later hb; repeat (first | with_reducible exact Below.refl _ _ | with_reducible apply below_alloc | with_reducible apply below_drw | with_reducible apply below_drew | with_reducible apply below_drewN | with_reducible apply below_plus | with_reducible apply below_set | (simp; done)))); exact hnc; exact hcm)); rintro e w1 ⟨n1, c1, hs1, hB1, rfl, rfl⟩) | (go_at_call 40; apply Calls.mono; (focus (with_reducible apply pick_any (m := 60); (focus (repeat (first | with_reducible exact hr | (with_reducible apply Rd.base_at hs1 hB1; simp; done) | with_reducible apply Rd.plus | with_reducible apply Rd.drew | with_reducible apply Rd.drewN | with_reducible apply Rd.drw | with_reducible apply Rd.alloc | with_reducible apply Rd.set))); all_goals omega)); rintro e w1 ⟨x1, d, hx10, hx11, rfl, rfl⟩; have := IntWalk.i64_in (x1 - 30) (by omega)))
  refine wp_region_any (by kernel_rfl) ?_
  show wpAny _ _ _ _ _ _ _ (World.drew _)
  refine region_shapes (fun _ => .any) [(5, .rd), (6, .int (-30) 29)] w.heap.size a n1 c1 1 1 _ _ ?_ (by decide) (by decide) (by decide) (by kernel_rfl) ?_ ?_ ?_ ?_
  · (focus (repeat (first | with_reducible exact hr | (with_reducible apply Rd.base_at hs1 hB1; simp; done) | with_reducible apply Rd.plus | with_reducible apply Rd.drew | with_reducible apply Rd.drewN | with_reducible apply Rd.drw | with_reducible apply Rd.alloc | with_reducible apply Rd.set)))
  · kernel_rfl
  · intro x hx
    simp only [List.mem_cons, List.not_mem_nil, or_false] at hx
    rcases hx with rfl | rfl
    · rfl
    · exact ⟨x1 - 30, rfl, by omega, by omega⟩
  · ((repeat (refine allSteps_cons ?_ ?_; focus (first | refine steps_move (by decide) _ (.inl rfl) (by intro s hs; cases hs; rfl) | refine steps_move (by decide) _ (.inr rfl) (by intro s hs; cases hs; rfl) | refine steps_pick (by decide) _ _ _ rfl rfl (by rfl) (by intro s hs; cases hs; rfl) | refine steps_add (by decide) _ _ _ _ _ _ rfl rfl rfl (by rfl) (by intro s hs; cases hs; rfl) | refine steps_sub (by decide) _ _ _ _ _ _ rfl rfl rfl (by rfl) (by intro s hs; cases hs; rfl) | refine steps_max (by decide) _ _ _ _ _ _ rfl rfl rfl rfl (by intro s hs; cases hs; rfl) | refine steps_neg (by decide) _ _ _ rfl rfl (by rfl) (by intro s hs; cases hs; rfl) | refine steps_mulK (by decide) _ _ _ _ _ rfl rfl rfl (by rfl) (by intro s hs; cases hs; rfl) | refine steps_mulL (by decide) _ _ _ _ _ rfl rfl rfl (by rfl) (by intro s hs; cases hs; rfl) | refine steps_quoK (by decide) _ _ _ _ _ rfl rfl rfl (by rfl) (by intro s hs; cases hs; rfl) | refine steps_index (by decide) _ _ _ _ _ _ _ rfl rfl rfl (by rfl) (by intro s hs; cases hs; rfl) | refine steps_load (by decide) _ _ _ rfl rfl (by intro s hs; cases hs; rfl) | (refine steps_build2 (by decide) _ _ ?_ ?_ _ _ _ _ rfl rfl rfl ?_ ?_; rotate_left 3; (intro s hs; cases hs; rfl); (all_goals rfl)) | (refine steps_build3 (by decide) _ _ _ ?_ ?_ _ _ _ _ _ _ rfl rfl rfl rfl ?_ ?_; rotate_left 3; (intro s hs; cases hs; rfl); (all_goals rfl)) | (refine steps_build4 (by decide) _ _ _ _ ?_ ?_ _ _ _ _ _ _ _ _ rfl rfl rfl rfl rfl ?_ ?_; rotate_left 3; (intro s hs; cases hs; rfl); (all_goals rfl)) | (refine steps_build5 (by decide) _ _ _ _ _ ?_ ?_ _ _ _ _ _ _ _ _ _ _ rfl rfl rfl rfl rfl rfl ?_ ?_; rotate_left 3; (intro s hs; cases hs; rfl); (all_goals rfl)) | (refine steps_build6 (by decide) _ _ _ _ _ _ ?_ ?_ _ _ _ _ _ _ _ _ _ _ _ _ rfl rfl rfl rfl rfl rfl rfl ?_ ?_; rotate_left 3; (intro s hs; cases hs; rfl); (all_goals rfl)) | (refine steps_build7 (by decide) _ _ _ _ _ _ _ ?_ ?_ _ _ _ _ _ _ _ _ _ _ _ _ _ _ rfl rfl rfl rfl rfl rfl rfl rfl ?_ ?_; rotate_left 3; (intro s hs; cases hs; rfl); (all_goals rfl)) | (refine steps_build8 (by decide) _ _ _ _ _ _ _ _ ?_ ?_ _ _ _ _ _ _ _ _ _ _ _ _ _ _ _ _ rfl rfl rfl rfl rfl rfl rfl rfl rfl ?_ ?_; rotate_left 3; (intro s hs; cases hs; rfl); (all_goals rfl)) | (refine steps_build9 (by decide) _ _ _ _ _ _ _ _ _ ?_ ?_ _ _ _ _ _ _ _ _ _ _ _ _ _ _ _ _ _ _ rfl rfl rfl rfl rfl rfl rfl rfl rfl rfl ?_ ?_; rotate_left 3; (intro s hs; cases hs; rfl); (all_goals rfl)) | (refine steps_build10 (by decide) _ _ _ _ _ _ _ _ _ _ ?_ ?_ _ _ _ _ _ _ _ _ _ _ _ _ _ _ _ _ _ _ _ _ rfl rfl rfl rfl rfl rfl rfl rfl rfl rfl rfl ?_ ?_; rotate_left 3; (intro s hs; cases hs; rfl); (all_goals rfl))))); exact True.intro)
  · intro a1 q os1 d1 hq0 hq1 hdef hsz hg
    obtain ⟨u2, e2, l2, g2⟩ := hg 2
    obtain ⟨u3, e3, l3, g3⟩ := hg 3
    obtain ⟨u4, e4, l4, g4⟩ := hg 4
    have b2 : -100 ≤ u2 ∧ u2 ≤ 20000 := ⟨Int.le_trans (by decide) l2, Int.le_trans g2 (by decide)⟩
    have b3 : -30 ≤ u3 ∧ u3 ≤ 29 := ⟨l3, g3⟩
    have b4 : 0 ≤ u4 ∧ u4 ≤ 101 := ⟨l4, g4⟩
    apply_assumption
    go_wp2
    refine bodyPost_ret (results_t3 rfl _ _ _) hdef ?_
    rw [e2, e3, e4]
    refine ⟨_, _, _, ⟨b2, b3, b4⟩, rfl, up_of_below ?_⟩
    repeat (first | with_reducible exact Below.refl _ _ | with_reducible apply below_alloc | with_reducible apply below_drw | with_reducible apply below_drew | with_reducible apply below_drewN | with_reducible apply below_plus | with_reducible apply below_set | (simp; done))

end Go.Proofs.Ytjklepabliehdaa
