/-
  The contract of the function that draws the arguments of the law on runs of motors. Conditions: those that the theorem states.
-/
import Derived.Test.YtelcaafnjahbkaaMoDraw3
namespace Go.Proofs.Ytelcaafnjahbkaa
open Go.RowKit

set_option maxHeartbeats 4000000 in
theorem drawRunMotor_any (a : Option Addr) (n c : Nat) (w : World) (hb : Bytes w w.heap.size a n) (hnc : n ≤ c) (hcm : c ≤ maxLen) :
    Calls Try.prog 35 #[.slice a n c] w fun e w' => ∃ x y t k d f m, MoD x y ∧ AimD t k d ∧ (-1 ≤ f ∧ f ≤ 8) ∧ (0 ≤ m ∧ m ≤ 401) ∧ e = .returned (.tuple #[.agg #[.int .i64 x, .int .i64 y], .int .i64 t, .int .i64 k, .int .i64 d, .int .i64 f, .int .i64 m]) ∧ Up w w' := by
  go_enter Try.func35, Try.ntmps35
  go_wp2_with (first | (go_at_call 45; apply Calls.mono; (focus (apply open_any; (focus (apply Bytes.later hb; repeat (first | with_reducible exact Below.refl _ _ | with_reducible apply below_alloc | with_reducible apply below_drw | with_reducible apply below_drew | with_reducible apply below_drewN | with_reducible apply below_plus | with_reducible apply below_set | (simp; done)))); exact hnc; exact hcm)); rintro e w1 ⟨n1, c1, hs1, hB1, rfl, rfl⟩) | (go_at_call 29; apply Calls.mono; (focus (apply drawAimTorque_any; (focus (apply Bytes.later hb; repeat (first | with_reducible exact Below.refl _ _ | with_reducible apply below_alloc | with_reducible apply below_drw | with_reducible apply below_drew | with_reducible apply below_drewN | with_reducible apply below_plus | with_reducible apply below_set | (simp; done)))); exact hnc; exact hcm)); rintro e w1 ⟨x, y, t, k, d, hM, hA, rfl, os, d', rfl⟩))
  obtain ⟨⟨x0, x1'⟩, y0, y1⟩ := hM
  obtain ⟨⟨t0, t1⟩, ⟨k0, k1⟩, d0, d1⟩ := hA
  have hoff : BytesOff [w.heap.size] a n1 := bytesOff_of hB1 (by
    intro r hr
    simp at hr
    subst hr
    exact ⟨_, _, _, heap_top rfl, ints_no_u8 [0, 0]⟩)
  refine wp_region_any (by kernel_rfl) ?_
  show wpAny _ _ _ _ _ _ _ (World.drew _)
  refine region_shapes (fun _ => .any) [(2, .res w.heap.size 25 [(-10001, 10001), (-201, 201)]), (8, .rd), (9, .box [(-10001, 10001), (-201, 201)]), (10, .int (-200) 10199), (11, .int (-1) 65), (12, .int (-1) 65)] (w.heap.size + 1) [w.heap.size] a n1 c1 1 0 _ _ ?_ ?_ ?_ hoff (by decide) (by decide) (by decide) (by kernel_rfl) (by kernel_rfl) ?_ ?_ (List.pairwise_singleton _ _) ?_
  · (focus (repeat (first | with_reducible exact hr | (with_reducible apply Rd.base_at hs1 hB1; simp; done) | with_reducible apply Rd.plus | with_reducible apply Rd.drew | with_reducible apply Rd.drewN | with_reducible apply Rd.drw | with_reducible apply Rd.alloc | with_reducible apply Rd.set)))
  · simp
  · intro r hr; simp at hr; subst hr; simp [drw_heap, go_sem]
  · intro x hx
    simp only [List.mem_cons, List.not_mem_nil, or_false] at hx
    rcases hx with rfl | rfl | rfl | rfl | rfl | rfl
    · refine ⟨rfl, by simp, by omega, #[.int .i64 0, .int .i64 0], ?_, rfl⟩
      (repeat (first | exact heap_top (by first | (simp; done) | (simp [go_sem]; done) | (simp; omega) | (simp [go_sem]; omega)) | refine (plus_block (by first | (simp; done) | (simp [go_sem]; done) | (simp; omega) | (simp [go_sem]; omega))).trans ?_ | refine (heap_under (by first | (simp; done) | (simp [go_sem]; done) | (simp; omega) | (simp [go_sem]; omega))).trans ?_ | refine (Below.heap_setCell _ _ _ _ (by first | (simp; done) | (simp [go_sem]; done) | (simp; omega) | (simp [go_sem]; omega))).trans ?_))
    · rfl
    · refine ⟨_, rfl, ⟨by omega, by simp; omega⟩, ⟨_, ?_, x0, x1'⟩, ⟨_, ?_, y0, y1⟩, trivial⟩
      · simp [go_sem]
      · simp [go_sem]
    · exact ⟨_, rfl, t0, t1⟩
    · exact ⟨_, rfl, k0, k1⟩
    · exact ⟨_, rfl, d0, d1⟩
  · ((repeat (refine allSteps_cons ?_ ?_; focus (first | refine steps_move (by decide) _ (.inl rfl) (by intro s hs; cases hs; rfl) | refine steps_move (by decide) _ (.inr rfl) (by intro s hs; cases hs; rfl) | refine steps_pick (by decide) _ _ _ rfl rfl (by rfl) (by intro s hs; cases hs; rfl) | refine steps_add (by decide) _ _ _ _ _ _ rfl rfl rfl (by rfl) (by intro s hs; cases hs; rfl) | refine steps_sub (by decide) _ _ _ _ _ _ rfl rfl rfl (by rfl) (by intro s hs; cases hs; rfl) | refine steps_max (by decide) _ _ _ _ _ _ rfl rfl rfl rfl (by intro s hs; cases hs; rfl) | refine steps_neg (by decide) _ _ _ rfl rfl (by rfl) (by intro s hs; cases hs; rfl) | refine steps_mulK (by decide) _ _ _ _ _ rfl rfl rfl (by rfl) (by intro s hs; cases hs; rfl) | refine steps_mulL (by decide) _ _ _ _ _ rfl rfl rfl (by rfl) (by intro s hs; cases hs; rfl) | refine steps_quoK (by decide) _ _ _ _ _ rfl rfl rfl (by rfl) (by intro s hs; cases hs; rfl) | refine steps_index (by decide) _ _ _ _ _ _ _ rfl rfl rfl (by rfl) (by intro s hs; cases hs; rfl) | refine steps_load (by decide) _ _ _ rfl rfl (by intro s hs; cases hs; rfl) | refine steps_agg_mot (by decide) _ _ _ _ _ _ rfl rfl rfl (by intro s hs; cases hs; rfl) | refine steps_read_mot (by decide) _ _ _ _ _ rfl rfl (by intro s hs; cases hs; rfl) | refine steps_at_mot0 (by decide) _ _ _ _ _ rfl rfl (by intro s hs; cases hs; rfl) | refine steps_at_mot1 (by decide) _ _ _ _ _ rfl rfl (by intro s hs; cases hs; rfl) | refine stores_mot _ _ _ _ _ _ _ _ _ _ _ _ rfl rfl rfl (by first | rfl | (simp; omega) | simp) | (refine steps_build2 (by decide) _ _ ?_ ?_ _ _ _ _ rfl rfl rfl ?_ ?_; rotate_left 3; (intro s hs; cases hs; rfl); (all_goals rfl)) | (refine steps_build3 (by decide) _ _ _ ?_ ?_ _ _ _ _ _ _ rfl rfl rfl rfl ?_ ?_; rotate_left 3; (intro s hs; cases hs; rfl); (all_goals rfl)) | (refine steps_build4 (by decide) _ _ _ _ ?_ ?_ _ _ _ _ _ _ _ _ rfl rfl rfl rfl rfl ?_ ?_; rotate_left 3; (intro s hs; cases hs; rfl); (all_goals rfl)) | (refine steps_build5 (by decide) _ _ _ _ _ ?_ ?_ _ _ _ _ _ _ _ _ _ _ rfl rfl rfl rfl rfl rfl ?_ ?_; rotate_left 3; (intro s hs; cases hs; rfl); (all_goals rfl)) | (refine steps_build6 (by decide) _ _ _ _ _ _ ?_ ?_ _ _ _ _ _ _ _ _ _ _ _ _ rfl rfl rfl rfl rfl rfl rfl ?_ ?_; rotate_left 3; (intro s hs; cases hs; rfl); (all_goals rfl)) | (refine steps_build7 (by decide) _ _ _ _ _ _ _ ?_ ?_ _ _ _ _ _ _ _ _ _ _ _ _ _ _ rfl rfl rfl rfl rfl rfl rfl rfl ?_ ?_; rotate_left 3; (intro s hs; cases hs; rfl); (all_goals rfl)) | (refine steps_build8 (by decide) _ _ _ _ _ _ _ _ ?_ ?_ _ _ _ _ _ _ _ _ _ _ _ _ _ _ _ _ rfl rfl rfl rfl rfl rfl rfl rfl rfl ?_ ?_; rotate_left 3; (intro s hs; cases hs; rfl); (all_goals rfl)) | (refine steps_build9 (by decide) _ _ _ _ _ _ _ _ _ ?_ ?_ _ _ _ _ _ _ _ _ _ _ _ _ _ _ _ _ _ _ rfl rfl rfl rfl rfl rfl rfl rfl rfl rfl ?_ ?_; rotate_left 3; (intro s hs; cases hs; rfl); (all_goals rfl)) | (refine steps_build10 (by decide) _ _ _ _ _ _ _ _ _ _ ?_ ?_ _ _ _ _ _ _ _ _ _ _ _ _ _ _ _ _ _ _ _ _ rfl rfl rfl rfl rfl rfl rfl rfl rfl rfl rfl ?_ ?_; rotate_left 3; (intro s hs; cases hs; rfl); (all_goals rfl)) | (fail)))); exact True.intro)
  · intro a1 q w1 hq0 hq1 hdef hsz hnear hrd1 hg hst
    have k2 : a1.tmps.getD 2 undef = _ := (hg 2).1
    obtain ⟨u3, k3, l3, g3⟩ := hg 3
    obtain ⟨u4, k4, l4, g4⟩ := hg 4
    obtain ⟨u5, k5, l5, g5⟩ := hg 5
    obtain ⟨u6, k6, l6, g6⟩ := hg 6
    obtain ⟨u7, k7, l7, g7⟩ := hg 7
    have b3 : -200 ≤ u3 ∧ u3 ≤ 10199 := ⟨l3, g3⟩
    have b4 : -1 ≤ u4 ∧ u4 ≤ 65 := ⟨l4, g4⟩
    have b5 : -1 ≤ u5 ∧ u5 ≤ 65 := ⟨l5, g5⟩
    have b6 : -1 ≤ u6 ∧ u6 ≤ 8 := ⟨l6, g6⟩
    have b7 : 0 ≤ u7 ∧ u7 ≤ 401 := ⟨l7, g7⟩
    obtain ⟨z0, z1, hb1, ⟨g00, g01⟩, g10, g11⟩ := res_lit2 (hst _ (List.Mem.head _))
    obtain ⟨os1, d1, rfl⟩ : ∃ os d, w1 = plus (w.alloc (.cells #[.int .i64 z0, .int .i64 z1] 25)) os d := by
      refine plus_of_below (Below.top (near_low ?_ (by omega) hnear (by simp)) hb1)
      repeat (first | with_reducible exact Below.refl _ _ | with_reducible apply below_alloc | with_reducible apply below_drw | with_reducible apply below_drew | with_reducible apply below_drewN | with_reducible apply below_plus | with_reducible apply below_set | (simp; done))
    clear hnear hg hst hb1 hrd1
    (obtain ⟨tm, df⟩ := a1; obtain rfl : df = [] := hdef; simp only at k2 k3 k4 k5 k6 k7; have hlit : tm = #[tm.getD 0 undef, tm.getD 1 undef, tm.getD 2 undef, tm.getD 3 undef, tm.getD 4 undef, tm.getD 5 undef, tm.getD 6 undef, tm.getD 7 undef, tm.getD 8 undef, tm.getD 9 undef, tm.getD 10 undef, tm.getD 11 undef, tm.getD 12 undef, tm.getD 13 undef, tm.getD 14 undef, tm.getD 15 undef, tm.getD 16 undef, tm.getD 17 undef, tm.getD 18 undef, tm.getD 19 undef, tm.getD 20 undef, tm.getD 21 undef, tm.getD 22 undef, tm.getD 23 undef, tm.getD 24 undef, tm.getD 25 undef, tm.getD 26 undef, tm.getD 27 undef, tm.getD 28 undef, tm.getD 29 undef, tm.getD 30 undef, tm.getD 31 undef, tm.getD 32 undef, tm.getD 33 undef, tm.getD 34 undef, tm.getD 35 undef, tm.getD 36 undef, tm.getD 37 undef, tm.getD 38 undef, tm.getD 39 undef, tm.getD 40 undef, tm.getD 41 undef, tm.getD 42 undef, tm.getD 43 undef] := lit_of_size tm 44 hsz; rw [k2, k3, k4, k5, k6, k7] at hlit; clear k2 k3 k4 k5 k6 k7; generalize tm.getD 0 undef = u0 at hlit; generalize tm.getD 1 undef = u1 at hlit; generalize tm.getD 8 undef = u8 at hlit; generalize tm.getD 9 undef = u9 at hlit; generalize tm.getD 10 undef = u10 at hlit; generalize tm.getD 11 undef = u11 at hlit; generalize tm.getD 12 undef = u12 at hlit; generalize tm.getD 13 undef = u13 at hlit; generalize tm.getD 14 undef = u14 at hlit; generalize tm.getD 15 undef = u15 at hlit; generalize tm.getD 16 undef = u16 at hlit; generalize tm.getD 17 undef = u17 at hlit; generalize tm.getD 18 undef = u18 at hlit; generalize tm.getD 19 undef = u19 at hlit; generalize tm.getD 20 undef = u20 at hlit; generalize tm.getD 21 undef = u21 at hlit; generalize tm.getD 22 undef = u22 at hlit; generalize tm.getD 23 undef = u23 at hlit; generalize tm.getD 24 undef = u24 at hlit; generalize tm.getD 25 undef = u25 at hlit; generalize tm.getD 26 undef = u26 at hlit; generalize tm.getD 27 undef = u27 at hlit; generalize tm.getD 28 undef = u28 at hlit; generalize tm.getD 29 undef = u29 at hlit; generalize tm.getD 30 undef = u30 at hlit; generalize tm.getD 31 undef = u31 at hlit; generalize tm.getD 32 undef = u32 at hlit; generalize tm.getD 33 undef = u33 at hlit; generalize tm.getD 34 undef = u34 at hlit; generalize tm.getD 35 undef = u35 at hlit; generalize tm.getD 36 undef = u36 at hlit; generalize tm.getD 37 undef = u37 at hlit; generalize tm.getD 38 undef = u38 at hlit; generalize tm.getD 39 undef = u39 at hlit; generalize tm.getD 40 undef = u40 at hlit; generalize tm.getD 41 undef = u41 at hlit; generalize tm.getD 42 undef = u42 at hlit; generalize tm.getD 43 undef = u43 at hlit; clear hsz; subst hlit)
    apply_assumption
    go_wp2
    refine bodyPost_ret (v := .tuple #[.agg #[.int .i64 z0, .int .i64 z1], .int .i64 u3, .int .i64 u4, .int .i64 u5, .int .i64 u6, .int .i64 u7]) (by simp [results, Try.results35, go_sem]) rfl ⟨_, _, ⟨⟨g00, g01⟩, g10, g11⟩, _, _, _, ⟨b3, b4, b5⟩, _, b6, _, b7, rfl, up_of_below ?_⟩
    repeat (first | with_reducible exact Below.refl _ _ | with_reducible apply below_alloc | with_reducible apply below_drw | with_reducible apply below_drew | with_reducible apply below_drewN | with_reducible apply below_plus | with_reducible apply below_set | (simp; done))

end Go.Proofs.Ytelcaafnjahbkaa
