/-
  The contract of the function that draws the arguments of the law on the step of a press. Conditions: those that the theorem states.
-/
import Derived.Test.YtjklepabliehdaaCtDraw
import Derived.Test.YtjklepabliehdaaShape3
namespace Go.Proofs.Ytjklepabliehdaa
open Go.RowKit

def PsD (f s : Int) : Prop := (0 ≤ f ∧ f ≤ 1001) ∧ 0 ≤ s ∧ s ≤ 20
theorem results_tmp5 {fn : Func} {t u v x y : Tmp} (h : fn.results = #[.tmp t, .tmp u, .tmp v, .tmp x, .tmp y]) (tmps : Array Value) (P : Program) (w : World) :
    (results fn tmps).run P w = .ok (.tuple #[tmps.getD t undef, tmps.getD u undef, tmps.getD v undef, tmps.getD x undef, tmps.getD y undef]) w := by simp [results, h]

set_option maxHeartbeats 4000000 in
theorem drawPressStep_any (a : Option Addr) (n c : Nat) (w : World) (hb : Bytes w w.heap.size a n) (hnc : n ≤ c) (hcm : c ≤ maxLen) :
    Calls Try.prog 21 #[.slice a n c] w fun e w' => ∃ x y q f s, CtD x y q ∧ PsD f s ∧ e = .returned (.tuple #[.int .i64 x, .int .i64 y, .int .i64 q, .int .i64 f, .int .i64 s]) ∧ Up w w' := by
  go_enter Try.func21, Try.ntmps21
  go_wp2_with (first | (go_at_call 39; apply Calls.mono; (focus (apply open_any; (focus (apply Bytes.later hb; repeat (first | with_reducible exact Below.refl _ _ | with_reducible apply below_alloc | with_reducible apply below_drw | with_reducible apply below_drew | with_reducible apply below_drewN | with_reducible apply below_plus | with_reducible apply below_set | (simp; done)))); exact hnc; exact hcm)); rintro e w1 ⟨n1, c1, hs1, hB1, rfl, rfl⟩) | (go_at_call 15; apply Calls.mono; (focus (apply drawContactForce_any; (focus (apply Bytes.later hb; repeat (first | with_reducible exact Below.refl _ _ | with_reducible apply below_alloc | with_reducible apply below_drw | with_reducible apply below_drew | with_reducible apply below_drewN | with_reducible apply below_plus | with_reducible apply below_set | (simp; done)))); exact hnc; exact hcm)); rintro e w1 ⟨p0, w0, k0, hC, rfl, os, d, rfl⟩))
  refine wp_region_any (by kernel_rfl) ?_
  refine region_shapes (fun _ => .any) [(7, .rd), (8, .int p0 p0), (9, .int w0 w0), (10, .int k0 k0)] w.heap.size a n1 c1 1 0 _ _ ?_ (by decide) (by decide) (by decide) (by kernel_rfl) ?_ ?_ ?_ ?_
  · exact ((Rd.base hs1 hB1).plus os d).drew
  · kernel_rfl
  · intro x hx
    simp only [List.mem_cons, List.not_mem_nil, or_false] at hx
    rcases hx with rfl | rfl | rfl | rfl
    · rfl
    · exact ⟨p0, rfl, Int.le_refl _, Int.le_refl _⟩
    · exact ⟨w0, rfl, Int.le_refl _, Int.le_refl _⟩
    · exact ⟨k0, rfl, Int.le_refl _, Int.le_refl _⟩
  · ((repeat (refine allSteps_cons ?_ ?_; focus (first | refine steps_move (by decide) _ (.inl rfl) (by intro s hs; cases hs; rfl) | refine steps_move (by decide) _ (.inr rfl) (by intro s hs; cases hs; rfl) | refine steps_pick (by decide) _ _ _ rfl rfl (by rfl) (by intro s hs; cases hs; rfl) | refine steps_add (by decide) _ _ _ _ _ _ rfl rfl rfl (by rfl) (by intro s hs; cases hs; rfl) | refine steps_sub (by decide) _ _ _ _ _ _ rfl rfl rfl (by rfl) (by intro s hs; cases hs; rfl) | refine steps_max (by decide) _ _ _ _ _ _ rfl rfl rfl rfl (by intro s hs; cases hs; rfl) | refine steps_neg (by decide) _ _ _ rfl rfl (by rfl) (by intro s hs; cases hs; rfl) | refine steps_mulK (by decide) _ _ _ _ _ rfl rfl rfl (by rfl) (by intro s hs; cases hs; rfl) | refine steps_mulL (by decide) _ _ _ _ _ rfl rfl rfl (by rfl) (by intro s hs; cases hs; rfl) | refine steps_quoK (by decide) _ _ _ _ _ rfl rfl rfl (by rfl) (by intro s hs; cases hs; rfl) | refine steps_index (by decide) _ _ _ _ _ _ _ rfl rfl rfl (by rfl) (by intro s hs; cases hs; rfl) | refine steps_load (by decide) _ _ _ rfl rfl (by intro s hs; cases hs; rfl) | (refine steps_build2 (by decide) _ _ ?_ ?_ _ _ _ _ rfl rfl rfl ?_ ?_; rotate_left 3; (intro s hs; cases hs; rfl); (all_goals rfl)) | (refine steps_build3 (by decide) _ _ _ ?_ ?_ _ _ _ _ _ _ rfl rfl rfl rfl ?_ ?_; rotate_left 3; (intro s hs; cases hs; rfl); (all_goals rfl)) | (refine steps_build4 (by decide) _ _ _ _ ?_ ?_ _ _ _ _ _ _ _ _ rfl rfl rfl rfl rfl ?_ ?_; rotate_left 3; (intro s hs; cases hs; rfl); (all_goals rfl)) | (refine steps_build5 (by decide) _ _ _ _ _ ?_ ?_ _ _ _ _ _ _ _ _ _ _ rfl rfl rfl rfl rfl rfl ?_ ?_; rotate_left 3; (intro s hs; cases hs; rfl); (all_goals rfl)) | (refine steps_build6 (by decide) _ _ _ _ _ _ ?_ ?_ _ _ _ _ _ _ _ _ _ _ _ _ rfl rfl rfl rfl rfl rfl rfl ?_ ?_; rotate_left 3; (intro s hs; cases hs; rfl); (all_goals rfl)) | (refine steps_build7 (by decide) _ _ _ _ _ _ _ ?_ ?_ _ _ _ _ _ _ _ _ _ _ _ _ _ _ rfl rfl rfl rfl rfl rfl rfl rfl ?_ ?_; rotate_left 3; (intro s hs; cases hs; rfl); (all_goals rfl)) | (refine steps_build8 (by decide) _ _ _ _ _ _ _ _ ?_ ?_ _ _ _ _ _ _ _ _ _ _ _ _ _ _ _ _ rfl rfl rfl rfl rfl rfl rfl rfl rfl ?_ ?_; rotate_left 3; (intro s hs; cases hs; rfl); (all_goals rfl)) | (refine steps_build9 (by decide) _ _ _ _ _ _ _ _ _ ?_ ?_ _ _ _ _ _ _ _ _ _ _ _ _ _ _ _ _ _ _ rfl rfl rfl rfl rfl rfl rfl rfl rfl rfl ?_ ?_; rotate_left 3; (intro s hs; cases hs; rfl); (all_goals rfl)) | (refine steps_build10 (by decide) _ _ _ _ _ _ _ _ _ _ ?_ ?_ _ _ _ _ _ _ _ _ _ _ _ _ _ _ _ _ _ _ _ _ rfl rfl rfl rfl rfl rfl rfl rfl rfl rfl rfl ?_ ?_; rotate_left 3; (intro s hs; cases hs; rfl); (all_goals rfl))))); exact True.intro)
  · intro a1 q os1 d1 hq0 hq1 hdef hsz hg
    obtain ⟨u2, e2, l2, g2⟩ := hg 2
    obtain ⟨u3, e3, l3, g3⟩ := hg 3
    obtain ⟨u4, e4, l4, g4⟩ := hg 4
    obtain ⟨u5, e5, l5, g5⟩ := hg 5
    obtain ⟨u6, e6, l6, g6⟩ := hg 6
    have b5 : 0 ≤ u5 ∧ u5 ≤ 1001 := ⟨l5, g5⟩
    have b6 : 0 ≤ u6 ∧ u6 ≤ 20 := ⟨l6, g6⟩
    have b2 : u2 = p0 := Int.le_antisymm g2 l2
    have b3 : u3 = w0 := Int.le_antisymm g3 l3
    have b4 : u4 = k0 := Int.le_antisymm g4 l4
    subst b2; subst b3; subst b4
    apply_assumption
    go_wp2
    refine bodyPost_ret (results_tmp5 rfl _ _ _) hdef ?_
    rw [e2, e3, e4, e5, e6]
    refine ⟨_, _, _, hC, _, _, ⟨b5, b6⟩, rfl, up_of_below ?_⟩
    repeat (first | with_reducible exact Below.refl _ _ | with_reducible apply below_alloc | with_reducible apply below_drw | with_reducible apply below_drew | with_reducible apply below_drewN | with_reducible apply below_plus | with_reducible apply below_set | (simp; done))

end Go.Proofs.Ytjklepabliehdaa
