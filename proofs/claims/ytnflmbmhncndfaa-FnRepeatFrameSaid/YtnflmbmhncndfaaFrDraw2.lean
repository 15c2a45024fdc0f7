/-
  The contract of the function that draws a frame and a number of times. Conditions: those that the theorem states.
-/
import Derived.Test.YtnflmbmhncndfaaFrDraw
import Derived.Test.YtnflmbmhncndfaaSh3
namespace Go.Proofs.Ytnflmbmhncndfaa
open Go.RowKit

theorem ints_no_u8 (xs : List Int) : ∀ v ∈ (xs.map (Value.int .i64)), ∀ z, v ≠ .int .u8 z := by
  intro v hv z h
  obtain ⟨x, _, rfl⟩ := List.mem_map.1 hv
  simp at h

set_option maxHeartbeats 4000000 in
theorem drawRepeatFrame_any (a : Option Addr) (n c : Nat) (w : World) (hb : Bytes w w.heap.size a n) (hnc : n ≤ c) (hcm : c ≤ maxLen) :
    Calls Try.prog 32 #[.slice a n c] w fun e w' => ∃ x y q m, FrD x y q ∧ -1 ≤ m ∧ m ≤ 101 ∧ e = .returned (.tuple #[.agg #[.int .i64 x, .int .i64 y, .int .i64 q], .int .i64 m]) ∧ Up w w' := by
  go_enter Try.func32, Try.ntmps32
  go_wp2_with (first | (go_at_call 39; apply Calls.mono; (focus (apply open_any; (focus (apply Bytes.later hb; repeat (first | with_reducible exact Below.refl _ _ | with_reducible apply below_alloc | with_reducible apply below_drw | with_reducible apply below_drew | with_reducible apply below_drewN | with_reducible apply below_plus | with_reducible apply below_set | (simp; done)))); exact hnc; exact hcm)); rintro e w1 ⟨n1, c1, hs1, hB1, rfl, rfl⟩) | (go_at_call 38; apply Calls.mono; (focus (apply l20Frame_any; (focus (repeat (first | with_reducible exact hr | (with_reducible apply Rd.base_at hs1 hB1; simp; done) | with_reducible apply Rd.plus | with_reducible apply Rd.drew | with_reducible apply Rd.drewN | with_reducible apply Rd.drw | with_reducible apply Rd.alloc | with_reducible apply Rd.set))); all_goals omega)); rintro e w1 ⟨x, y, q, hF, rfl, p', hp0, hp1, os, d, rfl⟩))
  obtain ⟨⟨x0, x1⟩, ⟨y0, y1⟩, q0, q1⟩ := hF
  have hoff : BytesOff [w.heap.size] a n1 := bytesOff_of hB1 (by
    intro r hr
    simp at hr
    subst hr
    exact ⟨_, _, _, heap_top rfl, ints_no_u8 [0, 0, 0]⟩)
  refine wp_region_any (by kernel_rfl) ?_
  show wpAny _ _ _ _ _ _ _ (World.drew _)
  refine region_shapes (fun _ => .any) [(2, .res w.heap.size 25 [(-1000000, 1000000), (-1000000, 1000000), (-1, 4)]), (4, .rd), (5, .box [(-1000000, 1000000), (-1000000, 1000000), (-1, 4)])] (w.heap.size + 1) [w.heap.size] a n1 c1 1 p' _ _ ?_ ?_ ?_ hoff (by omega) (by decide) (by show p' + 1 * (13 : Int) ≤ _; omega) (by kernel_rfl) (by kernel_rfl) ?_ ?_ (List.pairwise_singleton _ _) ?_
  · (focus (repeat (first | with_reducible exact hr | (with_reducible apply Rd.base_at hs1 hB1; simp; done) | with_reducible apply Rd.plus | with_reducible apply Rd.drew | with_reducible apply Rd.drewN | with_reducible apply Rd.drw | with_reducible apply Rd.alloc | with_reducible apply Rd.set)))
  · simp
  · intro r hr; simp at hr; subst hr; simp [go_sem]
  · intro x hx
    simp only [List.mem_cons, List.not_mem_nil, or_false] at hx
    rcases hx with rfl | rfl | rfl
    · refine ⟨rfl, by simp, by omega, #[.int .i64 0, .int .i64 0, .int .i64 0], ?_, rfl⟩
      (repeat (first | exact heap_top (by first | (simp; done) | (simp [go_sem]; done) | (simp; omega) | (simp [go_sem]; omega)) | refine (plus_block (by first | (simp; done) | (simp [go_sem]; done) | (simp; omega) | (simp [go_sem]; omega))).trans ?_ | refine (heap_under (by first | (simp; done) | (simp [go_sem]; done) | (simp; omega) | (simp [go_sem]; omega))).trans ?_ | refine (Below.heap_setCell _ _ _ _ (by first | (simp; done) | (simp [go_sem]; done) | (simp; omega) | (simp [go_sem]; omega))).trans ?_))
    · rfl
    · refine ⟨_, rfl, ⟨by omega, by simp; omega⟩, ⟨x, ?_, x0, x1⟩, ⟨y, ?_, y0, y1⟩, ⟨q, ?_, q0, q1⟩, trivial⟩
      · simp [go_sem]
      · simp [go_sem]
      · simp [go_sem]
  · ((repeat (refine allSteps_cons ?_ ?_; focus (first | refine steps_move (by decide) _ (.inl rfl) (by intro s hs; cases hs; rfl) | refine steps_move (by decide) _ (.inr rfl) (by intro s hs; cases hs; rfl) | refine steps_pick (by decide) _ _ _ rfl rfl (by rfl) (by intro s hs; cases hs; rfl) | refine steps_add (by decide) _ _ _ _ _ _ rfl rfl rfl (by rfl) (by intro s hs; cases hs; rfl) | refine steps_sub (by decide) _ _ _ _ _ _ rfl rfl rfl (by rfl) (by intro s hs; cases hs; rfl) | refine steps_max (by decide) _ _ _ _ _ _ rfl rfl rfl rfl (by intro s hs; cases hs; rfl) | refine steps_neg (by decide) _ _ _ rfl rfl (by rfl) (by intro s hs; cases hs; rfl) | refine steps_mulK (by decide) _ _ _ _ _ rfl rfl rfl (by rfl) (by intro s hs; cases hs; rfl) | refine steps_mulL (by decide) _ _ _ _ _ rfl rfl rfl (by rfl) (by intro s hs; cases hs; rfl) | refine steps_quoK (by decide) _ _ _ _ _ rfl rfl rfl (by rfl) (by intro s hs; cases hs; rfl) | refine steps_index (by decide) _ _ _ _ _ _ _ rfl rfl rfl (by rfl) (by intro s hs; cases hs; rfl) | refine steps_load (by decide) _ _ _ rfl rfl (by intro s hs; cases hs; rfl) | refine steps_agg_fr (by decide) _ _ _ _ _ _ _ _ _ rfl rfl rfl rfl (by intro s hs; cases hs; rfl) | refine steps_read_fr (by decide) _ _ _ _ _ _ _ rfl rfl (by intro s hs; cases hs; rfl) | refine steps_at_fr0 (by decide) _ _ _ _ _ _ _ rfl rfl (by intro s hs; cases hs; rfl) | refine steps_at_fr1 (by decide) _ _ _ _ _ _ _ rfl rfl (by intro s hs; cases hs; rfl) | refine steps_at_fr2 (by decide) _ _ _ _ _ _ _ rfl rfl (by intro s hs; cases hs; rfl) | refine stores_fr _ _ _ _ _ _ _ _ _ _ _ _ _ _ _ _ rfl rfl rfl (by first | rfl | (simp; omega) | simp) | refine steps_agg_pt (by decide) _ _ _ _ _ _ rfl rfl rfl (by intro s hs; cases hs; rfl) | refine steps_read_pt (by decide) _ _ _ _ _ rfl rfl (by intro s hs; cases hs; rfl) | refine steps_at_pt0 (by decide) _ _ _ _ _ rfl rfl (by intro s hs; cases hs; rfl) | refine steps_at_pt1 (by decide) _ _ _ _ _ rfl rfl (by intro s hs; cases hs; rfl) | refine stores_pt _ _ _ _ _ _ _ _ _ _ _ _ rfl rfl rfl (by first | rfl | (simp; omega) | simp) | (refine steps_build2 (by decide) _ _ ?_ ?_ _ _ _ _ rfl rfl rfl ?_ ?_; rotate_left 3; (intro s hs; cases hs; rfl); (all_goals rfl)) | (refine steps_build3 (by decide) _ _ _ ?_ ?_ _ _ _ _ _ _ rfl rfl rfl rfl ?_ ?_; rotate_left 3; (intro s hs; cases hs; rfl); (all_goals rfl)) | (refine steps_build4 (by decide) _ _ _ _ ?_ ?_ _ _ _ _ _ _ _ _ rfl rfl rfl rfl rfl ?_ ?_; rotate_left 3; (intro s hs; cases hs; rfl); (all_goals rfl)) | (refine steps_build5 (by decide) _ _ _ _ _ ?_ ?_ _ _ _ _ _ _ _ _ _ _ rfl rfl rfl rfl rfl rfl ?_ ?_; rotate_left 3; (intro s hs; cases hs; rfl); (all_goals rfl)) | (refine steps_build6 (by decide) _ _ _ _ _ _ ?_ ?_ _ _ _ _ _ _ _ _ _ _ _ _ rfl rfl rfl rfl rfl rfl rfl ?_ ?_; rotate_left 3; (intro s hs; cases hs; rfl); (all_goals rfl)) | (refine steps_build7 (by decide) _ _ _ _ _ _ _ ?_ ?_ _ _ _ _ _ _ _ _ _ _ _ _ _ _ rfl rfl rfl rfl rfl rfl rfl rfl ?_ ?_; rotate_left 3; (intro s hs; cases hs; rfl); (all_goals rfl)) | (refine steps_build8 (by decide) _ _ _ _ _ _ _ _ ?_ ?_ _ _ _ _ _ _ _ _ _ _ _ _ _ _ _ _ rfl rfl rfl rfl rfl rfl rfl rfl rfl ?_ ?_; rotate_left 3; (intro s hs; cases hs; rfl); (all_goals rfl)) | (refine steps_build9 (by decide) _ _ _ _ _ _ _ _ _ ?_ ?_ _ _ _ _ _ _ _ _ _ _ _ _ _ _ _ _ _ _ rfl rfl rfl rfl rfl rfl rfl rfl rfl rfl ?_ ?_; rotate_left 3; (intro s hs; cases hs; rfl); (all_goals rfl)) | (refine steps_build10 (by decide) _ _ _ _ _ _ _ _ _ _ ?_ ?_ _ _ _ _ _ _ _ _ _ _ _ _ _ _ _ _ _ _ _ _ rfl rfl rfl rfl rfl rfl rfl rfl rfl rfl rfl ?_ ?_; rotate_left 3; (intro s hs; cases hs; rfl); (all_goals rfl)) | (fail)))); exact True.intro)
  · intro a1 q w1 hq0 hq1 hdef hsz hnear hrd1 hg hst
    have k2 : a1.tmps.getD 2 undef = _ := (hg 2).1
    obtain ⟨u3, k3, l3, g3⟩ := hg 3
    have b3 : -1 ≤ u3 ∧ u3 ≤ 101 := ⟨l3, g3⟩
    obtain ⟨z0, z1, z2, hb1, ⟨g00, g01⟩, ⟨g10, g11⟩, g20, g21⟩ := res_lit3 (hst _ (List.Mem.head _))
    obtain ⟨os1, d1, rfl⟩ : ∃ os d, w1 = plus (w.alloc (.cells #[.int .i64 z0, .int .i64 z1, .int .i64 z2] 25)) os d := by
      refine plus_of_below (Below.top (near_low ?_ (by omega) hnear (by simp)) hb1)
      repeat (first | with_reducible exact Below.refl _ _ | with_reducible apply below_alloc | with_reducible apply below_drw | with_reducible apply below_drew | with_reducible apply below_drewN | with_reducible apply below_plus | with_reducible apply below_set | (simp; done))
    clear hnear hg hst hb1 hrd1
    (obtain ⟨tm, df⟩ := a1; obtain rfl : df = [] := hdef; simp only at k2 k3; have hlit : tm = #[tm.getD 0 undef, tm.getD 1 undef, tm.getD 2 undef, tm.getD 3 undef, tm.getD 4 undef, tm.getD 5 undef, tm.getD 6 undef, tm.getD 7 undef, tm.getD 8 undef, tm.getD 9 undef, tm.getD 10 undef, tm.getD 11 undef, tm.getD 12 undef, tm.getD 13 undef, tm.getD 14 undef, tm.getD 15 undef, tm.getD 16 undef, tm.getD 17 undef, tm.getD 18 undef, tm.getD 19 undef, tm.getD 20 undef] := lit_of_size tm 21 hsz; rw [k2, k3] at hlit; clear k2 k3; generalize tm.getD 0 undef = u0 at hlit; generalize tm.getD 1 undef = u1 at hlit; generalize tm.getD 4 undef = u4 at hlit; generalize tm.getD 5 undef = u5 at hlit; generalize tm.getD 6 undef = u6 at hlit; generalize tm.getD 7 undef = u7 at hlit; generalize tm.getD 8 undef = u8 at hlit; generalize tm.getD 9 undef = u9 at hlit; generalize tm.getD 10 undef = u10 at hlit; generalize tm.getD 11 undef = u11 at hlit; generalize tm.getD 12 undef = u12 at hlit; generalize tm.getD 13 undef = u13 at hlit; generalize tm.getD 14 undef = u14 at hlit; generalize tm.getD 15 undef = u15 at hlit; generalize tm.getD 16 undef = u16 at hlit; generalize tm.getD 17 undef = u17 at hlit; generalize tm.getD 18 undef = u18 at hlit; generalize tm.getD 19 undef = u19 at hlit; generalize tm.getD 20 undef = u20 at hlit; clear hsz; subst hlit)
    apply_assumption
    go_wp2
    refine bodyPost_ret (v := .tuple #[.agg #[.int .i64 z0, .int .i64 z1, .int .i64 z2], .int .i64 u3]) (by simp [results, Try.results32, go_sem]) rfl ⟨_, _, _, _, ⟨⟨g00, g01⟩, ⟨g10, g11⟩, g20, g21⟩, b3.1, b3.2, rfl, up_of_below ?_⟩
    repeat (first | with_reducible exact Below.refl _ _ | with_reducible apply below_alloc | with_reducible apply below_drw | with_reducible apply below_drew | with_reducible apply below_drewN | with_reducible apply below_plus | with_reducible apply below_set | (simp; done))

end Go.Proofs.Ytnflmbmhncndfaa
