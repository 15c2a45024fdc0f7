/-
  Contracts of the functions that draw motors. Conditions: those that each theorem states.
-/
import Derived.Test.YtelcaafnjahbkaaMo3
import Derived.Test.YtelcaafnjahbkaaOdd
import Derived.Test.YtelcaafnjahbkaaSh3
namespace Go.Proofs.Ytelcaafnjahbkaa
open Go.RowKit

/-- A drawn motor. -/
def MoD (x y : Int) : Prop := (-10001 ≤ x ∧ x ≤ 10001) ∧ -201 ≤ y ∧ y ≤ 201
def DrewMotor (w : World) (b : Nat) (p : Int) (e : Ending) (w' : World) : Prop :=
  ∃ x y, MoD x y ∧ e = .returned (.agg #[.int .i64 x, .int .i64 y]) ∧ Gone w b p 20 w'

set_option maxHeartbeats 4000000 in
theorem l20Motor_any (b : Nat) (a : Option Addr) (n c : Nat) (p m : Int) (w : World) (hr : Rd w b a n c p) (hp : 0 ≤ p) (hp1 : p ≤ 800000) (hm : 0 ≤ m) (hm1 : m ≤ 1000000) :
    Calls Try.prog 44 #[.pointer (some ⟨b, 0, none⟩), .int .i64 m] w (DrewMotor w b p) := by
  have hlt := hr.lt
  have hle := Nat.le_of_lt hlt
  have h1 := hr.at_
  have hoff : BytesOff [w.heap.size + 1] a n := bytesOff hr.bytes (by simp)
  go_enter Try.func44, Try.ntmps44
  go_wp2_with (first | (go_at_call 48; apply Calls.mono; (focus (with_reducible apply pick_any (m := 400); (focus (repeat (first | with_reducible exact hr | (with_reducible apply Rd.base_at hs1 hB1; simp; done) | with_reducible apply Rd.plus | with_reducible apply Rd.drew | with_reducible apply Rd.drewN | with_reducible apply Rd.drw | with_reducible apply Rd.alloc | with_reducible apply Rd.set))); all_goals omega)); rintro e w1 ⟨x1, d, hx10, hx11, rfl, rfl⟩; have := IntWalk.i64_in (x1 - 200) (by omega)) | (go_at_call 48; apply Calls.mono; (focus (with_reducible apply pick_any (m := 81); (focus (repeat (first | with_reducible exact hr | (with_reducible apply Rd.base_at hs1 hB1; simp; done) | with_reducible apply Rd.plus | with_reducible apply Rd.drew | with_reducible apply Rd.drewN | with_reducible apply Rd.drw | with_reducible apply Rd.alloc | with_reducible apply Rd.set))); all_goals omega)); rintro e w1 ⟨x2, d, hx20, hx21, rfl, rfl⟩; have := IntWalk.i64_in (x2 - 40) (by omega)) | (go_at_call 48; apply Calls.mono; (focus (with_reducible apply pick2_any; (focus (repeat (first | with_reducible exact hr | (with_reducible apply Rd.base_at hs1 hB1; simp; done) | with_reducible apply Rd.plus | with_reducible apply Rd.drew | with_reducible apply Rd.drewN | with_reducible apply Rd.drw | with_reducible apply Rd.alloc | with_reducible apply Rd.set))); all_goals omega)); rintro e w1 ⟨x, d, rfl | rfl, rfl, rfl⟩) | (go_at_call 51; apply Calls.mono; (focus (apply odd_any; (focus (repeat (first | with_reducible exact hr | (with_reducible apply Rd.base_at hs1 hB1; simp; done) | with_reducible apply Rd.plus | with_reducible apply Rd.drew | with_reducible apply Rd.drewN | with_reducible apply Rd.drw | with_reducible apply Rd.alloc | with_reducible apply Rd.set))); all_goals omega)); rintro e w1 ⟨t, p', d, hp0, hp1, rfl, rfl⟩; cases t))
  all_goals first
    | (refine bodyPost_ret (v := .agg #[.int .i64 _, .int .i64 _]) (by simp [results, Try.results44, go_sem] <;> first | exact ⟨rfl, rfl⟩ | exact rfl) rfl ⟨_, _, ?_, rfl, gone ?_ ?_ ?_ ?_⟩
       rotate_left 4
       focus
         repeat (first | with_reducible exact Below.refl _ _ | with_reducible apply below_alloc | with_reducible apply below_drw | with_reducible apply below_drew | with_reducible apply below_drewN | with_reducible apply below_plus | with_reducible apply below_set | (simp; done))
       all_goals (first | omega | (unfold MoD; omega)))
    | skip
  refine wp_region_any (by kernel_rfl) ?_
  show wpAny _ _ _ _ _ _ _ (World.drew _)
  refine region_shapes (fun _ => .any) [(0, .rd), (1, .int m m), (4, .val (.pointer (some ⟨w.heap.size, 0, none⟩))), (5, .res (w.heap.size + 1) 25 [(-10000, 10000), (-200, 200)])] b [w.heap.size + 1] a n c 1 p' _ _ ?_ ?_ ?_ hoff (by omega) (by decide) (by show p' + 1 * (12 : Int) ≤ _; omega) (by kernel_rfl) (by kernel_rfl) ?_ ?_ (List.pairwise_singleton _ _) ?_
  · (focus (repeat (first | with_reducible exact hr | (with_reducible apply Rd.base_at hs1 hB1; simp; done) | with_reducible apply Rd.plus | with_reducible apply Rd.drew | with_reducible apply Rd.drewN | with_reducible apply Rd.drw | with_reducible apply Rd.alloc | with_reducible apply Rd.set)))
  · simp; omega
  · intro r hr; simp at hr; subst hr; simp [drw_heap]
  · intro x hx
    simp only [List.mem_cons, List.not_mem_nil, or_false] at hx
    rcases hx with rfl | rfl | rfl | rfl
    · rfl
    · exact ⟨m, rfl, Int.le_refl _, Int.le_refl _⟩
    · rfl
    · exact ⟨rfl, by simp, by omega, _, heap_top (by simp), rfl⟩
  · ((repeat (refine allSteps_cons ?_ ?_; focus (first | refine steps_move (by decide) _ (.inl rfl) (by intro s hs; cases hs; rfl) | refine steps_move (by decide) _ (.inr rfl) (by intro s hs; cases hs; rfl) | refine steps_pick (by decide) _ _ _ rfl rfl (by rfl) (by intro s hs; cases hs; rfl) | refine steps_add (by decide) _ _ _ _ _ _ rfl rfl rfl (by rfl) (by intro s hs; cases hs; rfl) | refine steps_sub (by decide) _ _ _ _ _ _ rfl rfl rfl (by rfl) (by intro s hs; cases hs; rfl) | refine steps_max (by decide) _ _ _ _ _ _ rfl rfl rfl rfl (by intro s hs; cases hs; rfl) | refine steps_neg (by decide) _ _ _ rfl rfl (by rfl) (by intro s hs; cases hs; rfl) | refine steps_mulK (by decide) _ _ _ _ _ rfl rfl rfl (by rfl) (by intro s hs; cases hs; rfl) | refine steps_mulL (by decide) _ _ _ _ _ rfl rfl rfl (by rfl) (by intro s hs; cases hs; rfl) | refine steps_quoK (by decide) _ _ _ _ _ rfl rfl rfl (by rfl) (by intro s hs; cases hs; rfl) | refine steps_index (by decide) _ _ _ _ _ _ _ rfl rfl rfl (by rfl) (by intro s hs; cases hs; rfl) | refine steps_load (by decide) _ _ _ rfl rfl (by intro s hs; cases hs; rfl) | refine steps_agg_mot (by decide) _ _ _ _ _ _ rfl rfl rfl (by intro s hs; cases hs; rfl) | refine steps_read_mot (by decide) _ _ _ _ _ rfl rfl (by intro s hs; cases hs; rfl) | refine steps_at_mot0 (by decide) _ _ _ _ _ rfl rfl (by intro s hs; cases hs; rfl) | refine steps_at_mot1 (by decide) _ _ _ _ _ rfl rfl (by intro s hs; cases hs; rfl) | refine stores_mot _ _ _ _ _ _ _ _ _ _ _ _ rfl rfl rfl (by first | rfl | (simp; omega) | simp) | (refine steps_build2 (by decide) _ _ ?_ ?_ _ _ _ _ rfl rfl rfl ?_ ?_; rotate_left 3; (intro s hs; cases hs; rfl); (all_goals rfl)) | (refine steps_build3 (by decide) _ _ _ ?_ ?_ _ _ _ _ _ _ rfl rfl rfl rfl ?_ ?_; rotate_left 3; (intro s hs; cases hs; rfl); (all_goals rfl)) | (refine steps_build4 (by decide) _ _ _ _ ?_ ?_ _ _ _ _ _ _ _ _ rfl rfl rfl rfl rfl ?_ ?_; rotate_left 3; (intro s hs; cases hs; rfl); (all_goals rfl)) | (refine steps_build5 (by decide) _ _ _ _ _ ?_ ?_ _ _ _ _ _ _ _ _ _ _ rfl rfl rfl rfl rfl rfl ?_ ?_; rotate_left 3; (intro s hs; cases hs; rfl); (all_goals rfl)) | (refine steps_build6 (by decide) _ _ _ _ _ _ ?_ ?_ _ _ _ _ _ _ _ _ _ _ _ _ rfl rfl rfl rfl rfl rfl rfl ?_ ?_; rotate_left 3; (intro s hs; cases hs; rfl); (all_goals rfl)) | (refine steps_build7 (by decide) _ _ _ _ _ _ _ ?_ ?_ _ _ _ _ _ _ _ _ _ _ _ _ _ _ rfl rfl rfl rfl rfl rfl rfl rfl ?_ ?_; rotate_left 3; (intro s hs; cases hs; rfl); (all_goals rfl)) | (refine steps_build8 (by decide) _ _ _ _ _ _ _ _ ?_ ?_ _ _ _ _ _ _ _ _ _ _ _ _ _ _ _ _ rfl rfl rfl rfl rfl rfl rfl rfl rfl ?_ ?_; rotate_left 3; (intro s hs; cases hs; rfl); (all_goals rfl)) | (refine steps_build9 (by decide) _ _ _ _ _ _ _ _ _ ?_ ?_ _ _ _ _ _ _ _ _ _ _ _ _ _ _ _ _ _ _ rfl rfl rfl rfl rfl rfl rfl rfl rfl rfl ?_ ?_; rotate_left 3; (intro s hs; cases hs; rfl); (all_goals rfl)) | (refine steps_build10 (by decide) _ _ _ _ _ _ _ _ _ _ ?_ ?_ _ _ _ _ _ _ _ _ _ _ _ _ _ _ _ _ _ _ _ _ rfl rfl rfl rfl rfl rfl rfl rfl rfl rfl rfl ?_ ?_; rotate_left 3; (intro s hs; cases hs; rfl); (all_goals rfl)) | (fail)))); exact True.intro)
  · intro a1 q w1 hq0 hq1 hdef hsz hnear hrd1 hg hst
    have hq2 : q ≤ p' + 1 * (12 : Int) := hq1
    have k0 : a1.tmps.getD 0 undef = _ := hg 0
    obtain ⟨m', k1, hm0, hm1'⟩ := hg 1
    obtain rfl : m' = m := Int.le_antisymm hm1' hm0
    have k4 : a1.tmps.getD 4 undef = _ := hg 4
    have k5 : a1.tmps.getD 5 undef = _ := (hg 5).1
    obtain ⟨y0, y1, hb1, ⟨g00, g01⟩, g10, g11⟩ := res_lit2 (hst _ (List.Mem.head _))
    obtain ⟨os1, d1, rfl⟩ : ∃ os d, w1 = plus (((w.setCell ⟨b, 1, none⟩ (.int .i64 q)).alloc (.cells #[.int .i64 0, .int .i64 0] 25)).alloc (.cells #[.int .i64 y0, .int .i64 y1] 25)) os d := by
      refine plus_of_below (Below.top (Below.top (near_below (q0 := .int .i64 p') ?_ hnear (by simp)) ?_) ?_)
      · repeat (first | with_reducible exact Below.refl _ _ | with_reducible apply below_alloc | with_reducible apply below_drw | with_reducible apply below_drew | with_reducible apply below_drewN | with_reducible apply below_plus | with_reducible apply below_set | (simp; done))
      · rw [World.size_setCell, hnear.block _ (by simp [drw_heap]; omega) (by simp), Below.heap_setCell _ ⟨b, 1, none⟩ _ _ (Nat.ne_of_gt hlt)]
        exact (heap_under (by simp)).trans (heap_top (by simp))
      · simpa using hb1
    clear hnear hg hst hb1 hrd1
    (obtain ⟨tm, df⟩ := a1; obtain rfl : df = [] := hdef; simp only at k0 k1 k4 k5; have hlit : tm = #[tm.getD 0 undef, tm.getD 1 undef, tm.getD 2 undef, tm.getD 3 undef, tm.getD 4 undef, tm.getD 5 undef, tm.getD 6 undef, tm.getD 7 undef, tm.getD 8 undef, tm.getD 9 undef, tm.getD 10 undef, tm.getD 11 undef, tm.getD 12 undef, tm.getD 13 undef, tm.getD 14 undef, tm.getD 15 undef, tm.getD 16 undef, tm.getD 17 undef, tm.getD 18 undef, tm.getD 19 undef, tm.getD 20 undef, tm.getD 21 undef, tm.getD 22 undef, tm.getD 23 undef, tm.getD 24 undef, tm.getD 25 undef, tm.getD 26 undef, tm.getD 27 undef, tm.getD 28 undef, tm.getD 29 undef, tm.getD 30 undef, tm.getD 31 undef, tm.getD 32 undef, tm.getD 33 undef, tm.getD 34 undef, tm.getD 35 undef, tm.getD 36 undef, tm.getD 37 undef, tm.getD 38 undef, tm.getD 39 undef, tm.getD 40 undef, tm.getD 41 undef, tm.getD 42 undef, tm.getD 43 undef, tm.getD 44 undef, tm.getD 45 undef] := lit_of_size tm 46 hsz; rw [k0, k1, k4, k5] at hlit; clear k0 k1 k4 k5; generalize tm.getD 2 undef = u2 at hlit; generalize tm.getD 3 undef = u3 at hlit; generalize tm.getD 6 undef = u6 at hlit; generalize tm.getD 7 undef = u7 at hlit; generalize tm.getD 8 undef = u8 at hlit; generalize tm.getD 9 undef = u9 at hlit; generalize tm.getD 10 undef = u10 at hlit; generalize tm.getD 11 undef = u11 at hlit; generalize tm.getD 12 undef = u12 at hlit; generalize tm.getD 13 undef = u13 at hlit; generalize tm.getD 14 undef = u14 at hlit; generalize tm.getD 15 undef = u15 at hlit; generalize tm.getD 16 undef = u16 at hlit; generalize tm.getD 17 undef = u17 at hlit; generalize tm.getD 18 undef = u18 at hlit; generalize tm.getD 19 undef = u19 at hlit; generalize tm.getD 20 undef = u20 at hlit; generalize tm.getD 21 undef = u21 at hlit; generalize tm.getD 22 undef = u22 at hlit; generalize tm.getD 23 undef = u23 at hlit; generalize tm.getD 24 undef = u24 at hlit; generalize tm.getD 25 undef = u25 at hlit; generalize tm.getD 26 undef = u26 at hlit; generalize tm.getD 27 undef = u27 at hlit; generalize tm.getD 28 undef = u28 at hlit; generalize tm.getD 29 undef = u29 at hlit; generalize tm.getD 30 undef = u30 at hlit; generalize tm.getD 31 undef = u31 at hlit; generalize tm.getD 32 undef = u32 at hlit; generalize tm.getD 33 undef = u33 at hlit; generalize tm.getD 34 undef = u34 at hlit; generalize tm.getD 35 undef = u35 at hlit; generalize tm.getD 36 undef = u36 at hlit; generalize tm.getD 37 undef = u37 at hlit; generalize tm.getD 38 undef = u38 at hlit; generalize tm.getD 39 undef = u39 at hlit; generalize tm.getD 40 undef = u40 at hlit; generalize tm.getD 41 undef = u41 at hlit; generalize tm.getD 42 undef = u42 at hlit; generalize tm.getD 43 undef = u43 at hlit; generalize tm.getD 44 undef = u44 at hlit; generalize tm.getD 45 undef = u45 at hlit; clear hsz; subst hlit)
    apply_assumption
    go_wp2_with (first | (go_at_call 48; apply Calls.mono; (focus (with_reducible apply pick2_any; (focus (repeat (first | with_reducible exact hr | (with_reducible apply Rd.base_at hs1 hB1; simp; done) | with_reducible apply Rd.plus | with_reducible apply Rd.drew | with_reducible apply Rd.drewN | with_reducible apply Rd.drw | with_reducible apply Rd.alloc | with_reducible apply Rd.set))); all_goals omega)); rintro e w1 ⟨x, d, rfl | rfl, rfl, rfl⟩) | (go_at_call 51; apply Calls.mono; (focus (apply odd_any; (focus (repeat (first | with_reducible exact hr | (with_reducible apply Rd.base_at hs1 hB1; simp; done) | with_reducible apply Rd.plus | with_reducible apply Rd.drew | with_reducible apply Rd.drewN | with_reducible apply Rd.drw | with_reducible apply Rd.alloc | with_reducible apply Rd.set))); all_goals omega)); rintro e w1 ⟨t, p', d, hp0, hp1, rfl, rfl⟩; cases t))
    all_goals
      refine bodyPost_ret (v := .agg #[.int .i64 _, .int .i64 _]) (by simp [results, Try.results44, go_sem] <;> first | exact ⟨rfl, rfl⟩ | exact rfl) rfl ⟨_, _, ?_, rfl, gone ?_ ?_ ?_ ?_⟩
      rotate_left 4
      focus
        repeat (first | with_reducible exact Below.refl _ _ | with_reducible apply below_alloc | with_reducible apply below_drw | with_reducible apply below_drew | with_reducible apply below_drewN | with_reducible apply below_plus | with_reducible apply below_set | (simp; done))
      all_goals (first | omega | (unfold MoD; omega))

end Go.Proofs.Ytelcaafnjahbkaa
