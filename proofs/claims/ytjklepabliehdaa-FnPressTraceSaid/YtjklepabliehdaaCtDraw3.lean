/-
  The contracts of the functions that draw the arguments of the laws on the places of a press and on the gripper. Conditions: those that the theorems state.
-/
import Derived.Test.YtjklepabliehdaaCtDraw2
namespace Go.Proofs.Ytjklepabliehdaa
open Go.RowKit

set_option maxHeartbeats 4000000 in
theorem drawPressTrace_any (a : Option Addr) (n c : Nat) (w : World) (hb : Bytes w w.heap.size a n) (hnc : n ≤ c) (hcm : c ≤ maxLen) :
    Calls Try.prog 30 #[.slice a n c] w fun e w' => ∃ x y q f s m, CtD x y q ∧ PsD f s ∧ (-1 ≤ m ∧ m ≤ 401) ∧ e = .returned (.tuple #[.int .i64 x, .int .i64 y, .int .i64 q, .int .i64 f, .int .i64 s, .int .i64 m]) ∧ Up w w' := by
  go_enter Try.func30, Try.ntmps30
  go_wp2_with (first | (go_at_call 39; apply Calls.mono; (focus (apply open_any; (focus (apply Bytes.later hb; repeat (first | with_reducible exact Below.refl _ _ | with_reducible apply below_alloc | with_reducible apply below_drw | with_reducible apply below_drew | with_reducible apply below_drewN | with_reducible apply below_plus | with_reducible apply below_set | (simp; done)))); exact hnc; exact hcm)); rintro e w1 ⟨n1, c1, hs1, hB1, rfl, rfl⟩) | (go_at_call 21; apply Calls.mono; (focus (apply drawPressStep_any; (focus (apply Bytes.later hb; repeat (first | with_reducible exact Below.refl _ _ | with_reducible apply below_alloc | with_reducible apply below_drw | with_reducible apply below_drew | with_reducible apply below_drewN | with_reducible apply below_plus | with_reducible apply below_set | (simp; done)))); exact hnc; exact hcm)); rintro e w1 ⟨p0, w0, k0, f0, s0, hC, hD, rfl, os, d, rfl⟩))
  refine wp_region_any (by kernel_rfl) ?_
  show wpAny _ _ _ _ _ _ _ (World.drew _)
  refine region_shapes (fun _ => .any) [(8, .rd), (9, .int p0 p0), (10, .int w0 w0), (11, .int k0 k0), (12, .int f0 f0), (13, .int s0 s0)] w.heap.size a n1 c1 1 0 _ _ ?_ (by decide) (by decide) (by decide) (by kernel_rfl) ?_ ?_ ?_ ?_
  · exact ((Rd.base hs1 hB1).plus os d).drew
  · kernel_rfl
  · intro x hx
    simp only [List.mem_cons, List.not_mem_nil, or_false] at hx
    rcases hx with rfl | rfl | rfl | rfl | rfl | rfl
    · rfl
    · exact ⟨p0, rfl, Int.le_refl _, Int.le_refl _⟩
    · exact ⟨w0, rfl, Int.le_refl _, Int.le_refl _⟩
    · exact ⟨k0, rfl, Int.le_refl _, Int.le_refl _⟩
    · exact ⟨f0, rfl, Int.le_refl _, Int.le_refl _⟩
    · exact ⟨s0, rfl, Int.le_refl _, Int.le_refl _⟩
  · ((repeat (refine allSteps_cons ?_ ?_; focus (first | refine steps_move (by decide) _ (.inl rfl) (by intro s hs; cases hs; rfl) | refine steps_move (by decide) _ (.inr rfl) (by intro s hs; cases hs; rfl) | refine steps_pick (by decide) _ _ _ rfl rfl (by rfl) (by intro s hs; cases hs; rfl) | refine steps_add (by decide) _ _ _ _ _ _ rfl rfl rfl (by rfl) (by intro s hs; cases hs; rfl) | refine steps_sub (by decide) _ _ _ _ _ _ rfl rfl rfl (by rfl) (by intro s hs; cases hs; rfl) | refine steps_max (by decide) _ _ _ _ _ _ rfl rfl rfl rfl (by intro s hs; cases hs; rfl) | refine steps_neg (by decide) _ _ _ rfl rfl (by rfl) (by intro s hs; cases hs; rfl) | refine steps_mulK (by decide) _ _ _ _ _ rfl rfl rfl (by rfl) (by intro s hs; cases hs; rfl) | refine steps_mulL (by decide) _ _ _ _ _ rfl rfl rfl (by rfl) (by intro s hs; cases hs; rfl) | refine steps_quoK (by decide) _ _ _ _ _ rfl rfl rfl (by rfl) (by intro s hs; cases hs; rfl) | refine steps_index (by decide) _ _ _ _ _ _ _ rfl rfl rfl (by rfl) (by intro s hs; cases hs; rfl) | refine steps_load (by decide) _ _ _ rfl rfl (by intro s hs; cases hs; rfl) | (refine steps_build2 (by decide) _ _ ?_ ?_ _ _ _ _ rfl rfl rfl ?_ ?_; rotate_left 3; (intro s hs; cases hs; rfl); (all_goals rfl)) | (refine steps_build3 (by decide) _ _ _ ?_ ?_ _ _ _ _ _ _ rfl rfl rfl rfl ?_ ?_; rotate_left 3; (intro s hs; cases hs; rfl); (all_goals rfl)) | (refine steps_build4 (by decide) _ _ _ _ ?_ ?_ _ _ _ _ _ _ _ _ rfl rfl rfl rfl rfl ?_ ?_; rotate_left 3; (intro s hs; cases hs; rfl); (all_goals rfl)) | (refine steps_build5 (by decide) _ _ _ _ _ ?_ ?_ _ _ _ _ _ _ _ _ _ _ rfl rfl rfl rfl rfl rfl ?_ ?_; rotate_left 3; (intro s hs; cases hs; rfl); (all_goals rfl)) | (refine steps_build6 (by decide) _ _ _ _ _ _ ?_ ?_ _ _ _ _ _ _ _ _ _ _ _ _ rfl rfl rfl rfl rfl rfl rfl ?_ ?_; rotate_left 3; (intro s hs; cases hs; rfl); (all_goals rfl)) | (refine steps_build7 (by decide) _ _ _ _ _ _ _ ?_ ?_ _ _ _ _ _ _ _ _ _ _ _ _ _ _ rfl rfl rfl rfl rfl rfl rfl rfl ?_ ?_; rotate_left 3; (intro s hs; cases hs; rfl); (all_goals rfl)) | (refine steps_build8 (by decide) _ _ _ _ _ _ _ _ ?_ ?_ _ _ _ _ _ _ _ _ _ _ _ _ _ _ _ _ rfl rfl rfl rfl rfl rfl rfl rfl rfl ?_ ?_; rotate_left 3; (intro s hs; cases hs; rfl); (all_goals rfl)) | (refine steps_build9 (by decide) _ _ _ _ _ _ _ _ _ ?_ ?_ _ _ _ _ _ _ _ _ _ _ _ _ _ _ _ _ _ _ rfl rfl rfl rfl rfl rfl rfl rfl rfl rfl ?_ ?_; rotate_left 3; (intro s hs; cases hs; rfl); (all_goals rfl)) | (refine steps_build10 (by decide) _ _ _ _ _ _ _ _ _ _ ?_ ?_ _ _ _ _ _ _ _ _ _ _ _ _ _ _ _ _ _ _ _ _ rfl rfl rfl rfl rfl rfl rfl rfl rfl rfl rfl ?_ ?_; rotate_left 3; (intro s hs; cases hs; rfl); (all_goals rfl))))); exact True.intro)
  · intro a1 q os1 d1 hq0 hq1 hdef hsz hg
    obtain ⟨u2, e2, l2, g2⟩ := hg 2
    obtain ⟨u3, e3, l3, g3⟩ := hg 3
    obtain ⟨u4, e4, l4, g4⟩ := hg 4
    obtain ⟨u5, e5, l5, g5⟩ := hg 5
    obtain ⟨u6, e6, l6, g6⟩ := hg 6
    obtain ⟨u7, e7, l7, g7⟩ := hg 7
    have b7 : -1 ≤ u7 ∧ u7 ≤ 401 := ⟨l7, g7⟩
    have b2 : u2 = p0 := Int.le_antisymm g2 l2
    have b3 : u3 = w0 := Int.le_antisymm g3 l3
    have b4 : u4 = k0 := Int.le_antisymm g4 l4
    have b5 : u5 = f0 := Int.le_antisymm g5 l5
    have b6 : u6 = s0 := Int.le_antisymm g6 l6
    subst b2; subst b3; subst b4; subst b5; subst b6
    apply_assumption
    go_wp2
    refine bodyPost_ret (results_t6 rfl _ _ _) hdef ?_
    rw [e2, e3, e4, e5, e6, e7]
    refine ⟨_, _, _, hC, _, _, hD, _, b7, rfl, up_of_below ?_⟩
    repeat (first | with_reducible exact Below.refl _ _ | with_reducible apply below_alloc | with_reducible apply below_drw | with_reducible apply below_drew | with_reducible apply below_drewN | with_reducible apply below_plus | with_reducible apply below_set | (simp; done))

def GrD (x t s o : Int) : Prop := (-1 ≤ x ∧ x ≤ 201) ∧ (-1 ≤ t ∧ t ≤ 201) ∧ (0 ≤ s ∧ s ≤ 200) ∧ 0 ≤ o ∧ o ≤ 201

set_option maxHeartbeats 4000000 in
theorem drawGripStep_any (a : Option Addr) (n c : Nat) (w : World) (hb : Bytes w w.heap.size a n) (hnc : n ≤ c) (hcm : c ≤ maxLen) :
    Calls Try.prog 17 #[.slice a n c] w fun e w' => ∃ x t s o, GrD x t s o ∧ e = .returned (.tuple #[.int .i64 x, .int .i64 t, .int .i64 s, .int .i64 o]) ∧ Up w w' := by
  go_enter Try.func17, Try.ntmps17
  go_wp2_with (first | (go_at_call 39; apply Calls.mono; (focus (apply open_any; (focus (apply Bytes.later hb; repeat (first | with_reducible exact Below.refl _ _ | with_reducible apply below_alloc | with_reducible apply below_drw | with_reducible apply below_drew | with_reducible apply below_drewN | with_reducible apply below_plus | with_reducible apply below_set | (simp; done)))); exact hnc; exact hcm)); rintro e w1 ⟨n1, c1, hs1, hB1, rfl, rfl⟩) | (go_at_call 40; apply Calls.mono; (focus (with_reducible apply pick_any (m := 203); (focus (repeat (first | with_reducible exact hr | (with_reducible apply Rd.base_at hs1 hB1; simp; done) | with_reducible apply Rd.plus | with_reducible apply Rd.drew | with_reducible apply Rd.drewN | with_reducible apply Rd.drw | with_reducible apply Rd.alloc | with_reducible apply Rd.set))); all_goals omega)); rintro e w1 ⟨x1, d, hx10, hx11, rfl, rfl⟩; have := IntWalk.i64_in (x1 - 1) (by omega)) | (go_at_call 40; apply Calls.mono; (focus (with_reducible apply pick_any (m := 201); (focus (repeat (first | with_reducible exact hr | (with_reducible apply Rd.base_at hs1 hB1; simp; done) | with_reducible apply Rd.plus | with_reducible apply Rd.drew | with_reducible apply Rd.drewN | with_reducible apply Rd.drw | with_reducible apply Rd.alloc | with_reducible apply Rd.set))); all_goals omega)); rintro e w1 ⟨x2, d, hx20, hx21, rfl, rfl⟩) | (go_at_call 40; apply Calls.mono; (focus (with_reducible apply pick_any (m := 30); (focus (repeat (first | with_reducible exact hr | (with_reducible apply Rd.base_at hs1 hB1; simp; done) | with_reducible apply Rd.plus | with_reducible apply Rd.drew | with_reducible apply Rd.drewN | with_reducible apply Rd.drw | with_reducible apply Rd.alloc | with_reducible apply Rd.set))); all_goals omega)); rintro e w1 ⟨x3, d, hx30, hx31, rfl, rfl⟩; have := IntWalk.i64_in (1 + x3) (by omega)))
  apply Calls.mono; (focus (with_reducible apply pick_any (m := 6); (focus (repeat (first | with_reducible exact hr | (with_reducible apply Rd.base_at hs1 hB1; simp; done) | with_reducible apply Rd.plus | with_reducible apply Rd.drew | with_reducible apply Rd.drewN | with_reducible apply Rd.drw | with_reducible apply Rd.alloc | with_reducible apply Rd.set))); all_goals omega)); rintro e w1 ⟨x4, d, hx40, hx41, rfl, rfl⟩
  obtain ⟨y4, hy40, hy41, hy4⟩ := sel_list [0, 0, 0, 0, 1, 2] 0 2 (by simp) x4 hx40 hx41
  simp only [List.map] at hy4
  obtain ⟨z4, hz40, hz41, hz4⟩ := sel_list [1 + x3, 0, 200] 0 200 (by simp; omega) y4 hy40 (by simp; omega)
  simp only [List.map] at hz4
  have hxn : x4.toNat < 6 := by omega
  have hyn : y4.toNat < 3 := by omega
  go_wp2
  refine wp_region_any (by kernel_rfl) ?_
  show wpAny _ _ _ _ _ _ _ (World.drew _)
  refine region_shapes (fun _ => .any) [(6, .rd), (7, .int (-1) 201), (8, .int 0 200), (9, .int 0 200)] w.heap.size a n1 c1 1 4 _ _ ?_ (by decide) (by decide) (by decide) (by kernel_rfl) ?_ ?_ ?_ ?_
  · (focus (repeat (first | with_reducible exact hr | (with_reducible apply Rd.base_at hs1 hB1; simp; done) | with_reducible apply Rd.plus | with_reducible apply Rd.drew | with_reducible apply Rd.drewN | with_reducible apply Rd.drw | with_reducible apply Rd.alloc | with_reducible apply Rd.set)))
  · kernel_rfl
  · intro x hx
    simp only [List.mem_cons, List.not_mem_nil, or_false] at hx
    rcases hx with rfl | rfl | rfl | rfl
    · rfl
    · exact ⟨x1 - 1, rfl, by omega, by omega⟩
    · exact ⟨x2, rfl, by omega, by omega⟩
    · exact ⟨z4, rfl, by omega, by omega⟩
  · ((repeat (refine allSteps_cons ?_ ?_; focus (first | refine steps_move (by decide) _ (.inl rfl) (by intro s hs; cases hs; rfl) | refine steps_move (by decide) _ (.inr rfl) (by intro s hs; cases hs; rfl) | refine steps_pick (by decide) _ _ _ rfl rfl (by rfl) (by intro s hs; cases hs; rfl) | refine steps_add (by decide) _ _ _ _ _ _ rfl rfl rfl (by rfl) (by intro s hs; cases hs; rfl) | refine steps_sub (by decide) _ _ _ _ _ _ rfl rfl rfl (by rfl) (by intro s hs; cases hs; rfl) | refine steps_max (by decide) _ _ _ _ _ _ rfl rfl rfl rfl (by intro s hs; cases hs; rfl) | refine steps_neg (by decide) _ _ _ rfl rfl (by rfl) (by intro s hs; cases hs; rfl) | refine steps_mulK (by decide) _ _ _ _ _ rfl rfl rfl (by rfl) (by intro s hs; cases hs; rfl) | refine steps_mulL (by decide) _ _ _ _ _ rfl rfl rfl (by rfl) (by intro s hs; cases hs; rfl) | refine steps_quoK (by decide) _ _ _ _ _ rfl rfl rfl (by rfl) (by intro s hs; cases hs; rfl) | refine steps_index (by decide) _ _ _ _ _ _ _ rfl rfl rfl (by rfl) (by intro s hs; cases hs; rfl) | refine steps_load (by decide) _ _ _ rfl rfl (by intro s hs; cases hs; rfl) | (refine steps_build2 (by decide) _ _ ?_ ?_ _ _ _ _ rfl rfl rfl ?_ ?_; rotate_left 3; (intro s hs; cases hs; rfl); (all_goals rfl)) | (refine steps_build3 (by decide) _ _ _ ?_ ?_ _ _ _ _ _ _ rfl rfl rfl rfl ?_ ?_; rotate_left 3; (intro s hs; cases hs; rfl); (all_goals rfl)) | (refine steps_build4 (by decide) _ _ _ _ ?_ ?_ _ _ _ _ _ _ _ _ rfl rfl rfl rfl rfl ?_ ?_; rotate_left 3; (intro s hs; cases hs; rfl); (all_goals rfl)) | (refine steps_build5 (by decide) _ _ _ _ _ ?_ ?_ _ _ _ _ _ _ _ _ _ _ rfl rfl rfl rfl rfl rfl ?_ ?_; rotate_left 3; (intro s hs; cases hs; rfl); (all_goals rfl)) | (refine steps_build6 (by decide) _ _ _ _ _ _ ?_ ?_ _ _ _ _ _ _ _ _ _ _ _ _ rfl rfl rfl rfl rfl rfl rfl ?_ ?_; rotate_left 3; (intro s hs; cases hs; rfl); (all_goals rfl)) | (refine steps_build7 (by decide) _ _ _ _ _ _ _ ?_ ?_ _ _ _ _ _ _ _ _ _ _ _ _ _ _ rfl rfl rfl rfl rfl rfl rfl rfl ?_ ?_; rotate_left 3; (intro s hs; cases hs; rfl); (all_goals rfl)) | (refine steps_build8 (by decide) _ _ _ _ _ _ _ _ ?_ ?_ _ _ _ _ _ _ _ _ _ _ _ _ _ _ _ _ rfl rfl rfl rfl rfl rfl rfl rfl rfl ?_ ?_; rotate_left 3; (intro s hs; cases hs; rfl); (all_goals rfl)) | (refine steps_build9 (by decide) _ _ _ _ _ _ _ _ _ ?_ ?_ _ _ _ _ _ _ _ _ _ _ _ _ _ _ _ _ _ _ rfl rfl rfl rfl rfl rfl rfl rfl rfl rfl ?_ ?_; rotate_left 3; (intro s hs; cases hs; rfl); (all_goals rfl)) | (refine steps_build10 (by decide) _ _ _ _ _ _ _ _ _ _ ?_ ?_ _ _ _ _ _ _ _ _ _ _ _ _ _ _ _ _ _ _ _ _ rfl rfl rfl rfl rfl rfl rfl rfl rfl rfl rfl ?_ ?_; rotate_left 3; (intro s hs; cases hs; rfl); (all_goals rfl))))); exact True.intro)
  · intro a1 q os1 d1 hq0 hq1 hdef hsz hg
    obtain ⟨u2, e2, l2, g2⟩ := hg 2
    obtain ⟨u3, e3, l3, g3⟩ := hg 3
    obtain ⟨u4, e4, l4, g4⟩ := hg 4
    obtain ⟨u5, e5, l5, g5⟩ := hg 5
    have b2 : -1 ≤ u2 ∧ u2 ≤ 201 := ⟨l2, g2⟩
    have b3 : -1 ≤ u3 ∧ u3 ≤ 201 := ⟨l3, g3⟩
    have b4 : 0 ≤ u4 ∧ u4 ≤ 200 := ⟨l4, g4⟩
    have b5 : 0 ≤ u5 ∧ u5 ≤ 201 := ⟨l5, g5⟩
    apply_assumption
    go_wp2
    refine bodyPost_ret (results_t4 rfl _ _ _) hdef ?_
    rw [e2, e3, e4, e5]
    refine ⟨_, _, _, _, ⟨b2, b3, b4, b5⟩, rfl, up_of_below ?_⟩
    repeat (first | with_reducible exact Below.refl _ _ | with_reducible apply below_alloc | with_reducible apply below_drw | with_reducible apply below_drew | with_reducible apply below_drewN | with_reducible apply below_plus | with_reducible apply below_set | (simp; done))

theorem drawGripTime_any (a : Option Addr) (n c : Nat) (w : World) (hb : Bytes w w.heap.size a n) (hnc : n ≤ c) (hcm : c ≤ maxLen) :
    Calls Try.prog 22 #[.slice a n c] w fun e w' => ∃ x t s o, GrD x t s o ∧ e = .returned (.tuple #[.int .i64 x, .int .i64 t, .int .i64 s, .int .i64 o]) ∧ Up w w' := by
  go_enter Try.func22, Try.ntmps22
  go_wp2_with (go_at_call 17; refine (drawGripStep_any _ _ _ _ hb hnc hcm).mono ?_; rintro e w1 ⟨x, t, s, o, hD, rfl, os0, d0, rfl⟩)
  refine bodyPost_ret (results_t4 rfl _ _ _) rfl ?_
  exact ⟨_, _, _, _, hD, rfl, up_of_below (by repeat (first | with_reducible exact Below.refl _ _ | with_reducible apply below_alloc | with_reducible apply below_drw | with_reducible apply below_drew | with_reducible apply below_drewN | with_reducible apply below_plus | with_reducible apply below_set | (simp; done)))⟩

end Go.Proofs.Ytjklepabliehdaa
