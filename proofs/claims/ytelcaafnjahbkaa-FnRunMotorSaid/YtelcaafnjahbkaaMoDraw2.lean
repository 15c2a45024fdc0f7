/-
  Contracts of the functions that draw the arguments of the laws on motors. Conditions: those that each theorem states.
-/
import Derived.Test.YtelcaafnjahbkaaMoDraw
namespace Go.Proofs.Ytelcaafnjahbkaa
open Go.RowKit

set_option maxHeartbeats 2000000 in
theorem drawBrakeTorque_any (a : Option Addr) (n c : Nat) (w : World) (hb : Bytes w w.heap.size a n) (hnc : n ≤ c) (hcm : c ≤ maxLen) :
    Calls Try.prog 26 #[.slice a n c] w fun e w' => ∃ x y, MoD x y ∧ e = .returned (.agg #[.int .i64 x, .int .i64 y]) ∧ Up w w' := by
  go_enter Try.func26, Try.ntmps26
  go_wp2_with (first | (go_at_call 45; apply Calls.mono; (focus (apply open_any; (focus (apply Bytes.later hb; repeat (first | with_reducible exact Below.refl _ _ | with_reducible apply below_alloc | with_reducible apply below_drw | with_reducible apply below_drew | with_reducible apply below_drewN | with_reducible apply below_plus | with_reducible apply below_set | (simp; done)))); exact hnc; exact hcm)); rintro e w1 ⟨n1, c1, hs1, hB1, rfl, rfl⟩) | (go_at_call 44; apply Calls.mono; (focus (apply l20Motor_any; (focus (repeat (first | with_reducible exact hr | (with_reducible apply Rd.base_at hs1 hB1; simp; done) | with_reducible apply Rd.plus | with_reducible apply Rd.drew | with_reducible apply Rd.drewN | with_reducible apply Rd.drw | with_reducible apply Rd.alloc | with_reducible apply Rd.set))); all_goals omega)); rintro e w1 ⟨x, y, hM, rfl, p', hp0, hp1, os, d, rfl⟩))
  refine bodyPost_ret (v := .agg #[.int .i64 _, .int .i64 _]) (by simp [results, Try.results26, go_sem] <;> first | exact ⟨rfl, rfl⟩ | exact rfl) rfl ⟨_, _, hM, rfl, up_of_below ?_⟩
  repeat (first | with_reducible exact Below.refl _ _ | with_reducible apply below_alloc | with_reducible apply below_drw | with_reducible apply below_drew | with_reducible apply below_drewN | with_reducible apply below_plus | with_reducible apply below_set | (simp; done))

theorem ints_no_u8 (xs : List Int) : ∀ v ∈ (xs.map (Value.int .i64)), ∀ z, v ≠ .int .u8 z := by
  intro v hv z h
  obtain ⟨x, _, rfl⟩ := List.mem_map.1 hv
  simp at h

set_option maxHeartbeats 4000000 in
theorem drawMotorStep_any (a : Option Addr) (n c : Nat) (w : World) (hb : Bytes w w.heap.size a n) (hnc : n ≤ c) (hcm : c ≤ maxLen) :
    Calls Try.prog 28 #[.slice a n c] w fun e w' => ∃ x y t f, MoD x y ∧ (-101 ≤ t ∧ t ≤ 101) ∧ (-1 ≤ f ∧ f ≤ 101) ∧ e = .returned (.tuple #[.agg #[.int .i64 x, .int .i64 y], .int .i64 t, .int .i64 f]) ∧ Up w w' := by
  go_enter Try.func28, Try.ntmps28
  go_wp2_with (first | (go_at_call 45; apply Calls.mono; (focus (apply open_any; (focus (apply Bytes.later hb; repeat (first | with_reducible exact Below.refl _ _ | with_reducible apply below_alloc | with_reducible apply below_drw | with_reducible apply below_drew | with_reducible apply below_drewN | with_reducible apply below_plus | with_reducible apply below_set | (simp; done)))); exact hnc; exact hcm)); rintro e w1 ⟨n1, c1, hs1, hB1, rfl, rfl⟩) | (go_at_call 44; apply Calls.mono; (focus (apply l20Motor_any; (focus (repeat (first | with_reducible exact hr | (with_reducible apply Rd.base_at hs1 hB1; simp; done) | with_reducible apply Rd.plus | with_reducible apply Rd.drew | with_reducible apply Rd.drewN | with_reducible apply Rd.drw | with_reducible apply Rd.alloc | with_reducible apply Rd.set))); all_goals omega)); rintro e w1 ⟨x, y, hM, rfl, p', hp0, hp1, os, d, rfl⟩))
  obtain ⟨⟨x0, x1⟩, y0, y1⟩ := hM
  have hoff : BytesOff [w.heap.size] a n1 := bytesOff_of hB1 (by
    intro r hr
    simp at hr
    subst hr
    exact ⟨_, _, _, heap_top rfl, ints_no_u8 [0, 0]⟩)
  refine wp_region_any (by kernel_rfl) ?_
  show wpAny _ _ _ _ _ _ _ (World.drew _)
  refine region_shapes (fun _ => .any) [(2, .res w.heap.size 25 [(-10001, 10001), (-201, 201)]), (5, .rd), (6, .box [(-10001, 10001), (-201, 201)])] (w.heap.size + 1) [w.heap.size] a n1 c1 1 p' _ _ ?_ ?_ ?_ hoff (by omega) (by decide) (by show p' + 1 * (18 : Int) ≤ _; omega) (by kernel_rfl) (by kernel_rfl) ?_ ?_ (List.pairwise_singleton _ _) ?_
  · (focus (repeat (first | with_reducible exact hr | (with_reducible apply Rd.base_at hs1 hB1; simp; done) | with_reducible apply Rd.plus | with_reducible apply Rd.drew | with_reducible apply Rd.drewN | with_reducible apply Rd.drw | with_reducible apply Rd.alloc | with_reducible apply Rd.set)))
  · simp
  · intro r hr; simp at hr; subst hr; simp [drw_heap, go_sem]
  · intro x hx
    simp only [List.mem_cons, List.not_mem_nil, or_false] at hx
    rcases hx with rfl | rfl | rfl
    · refine ⟨rfl, by simp, by omega, #[.int .i64 0, .int .i64 0], ?_, rfl⟩
      (repeat (first | exact heap_top (by first | (simp; done) | (simp [go_sem]; done) | (simp; omega) | (simp [go_sem]; omega)) | refine (plus_block (by first | (simp; done) | (simp [go_sem]; done) | (simp; omega) | (simp [go_sem]; omega))).trans ?_ | refine (heap_under (by first | (simp; done) | (simp [go_sem]; done) | (simp; omega) | (simp [go_sem]; omega))).trans ?_ | refine (Below.heap_setCell _ _ _ _ (by first | (simp; done) | (simp [go_sem]; done) | (simp; omega) | (simp [go_sem]; omega))).trans ?_))
    · rfl
    · refine ⟨_, rfl, ⟨by omega, by simp; omega⟩, ⟨x, ?_, x0, x1⟩, ⟨y, ?_, y0, y1⟩, trivial⟩
      · simp [go_sem]
      · simp [go_sem]
  · ((repeat (refine allSteps_cons ?_ ?_; focus (first | refine steps_move (by decide) _ (.inl rfl) (by intro s hs; cases hs; rfl) | refine steps_move (by decide) _ (.inr rfl) (by intro s hs; cases hs; rfl) | refine steps_pick (by decide) _ _ _ rfl rfl (by rfl) (by intro s hs; cases hs; rfl) | refine steps_add (by decide) _ _ _ _ _ _ rfl rfl rfl (by rfl) (by intro s hs; cases hs; rfl) | refine steps_sub (by decide) _ _ _ _ _ _ rfl rfl rfl (by rfl) (by intro s hs; cases hs; rfl) | refine steps_max (by decide) _ _ _ _ _ _ rfl rfl rfl rfl (by intro s hs; cases hs; rfl) | refine steps_neg (by decide) _ _ _ rfl rfl (by rfl) (by intro s hs; cases hs; rfl) | refine steps_mulK (by decide) _ _ _ _ _ rfl rfl rfl (by rfl) (by intro s hs; cases hs; rfl) | refine steps_mulL (by decide) _ _ _ _ _ rfl rfl rfl (by rfl) (by intro s hs; cases hs; rfl) | refine steps_quoK (by decide) _ _ _ _ _ rfl rfl rfl (by rfl) (by intro s hs; cases hs; rfl) | refine steps_index (by decide) _ _ _ _ _ _ _ rfl rfl rfl (by rfl) (by intro s hs; cases hs; rfl) | refine steps_load (by decide) _ _ _ rfl rfl (by intro s hs; cases hs; rfl) | refine steps_agg_mot (by decide) _ _ _ _ _ _ rfl rfl rfl (by intro s hs; cases hs; rfl) | refine steps_read_mot (by decide) _ _ _ _ _ rfl rfl (by intro s hs; cases hs; rfl) | refine steps_at_mot0 (by decide) _ _ _ _ _ rfl rfl (by intro s hs; cases hs; rfl) | refine steps_at_mot1 (by decide) _ _ _ _ _ rfl rfl (by intro s hs; cases hs; rfl) | refine stores_mot _ _ _ _ _ _ _ _ _ _ _ _ rfl rfl rfl (by first | rfl | (simp; omega) | simp) | (refine steps_build2 (by decide) _ _ ?_ ?_ _ _ _ _ rfl rfl rfl ?_ ?_; rotate_left 3; (intro s hs; cases hs; rfl); (all_goals rfl)) | (refine steps_build3 (by decide) _ _ _ ?_ ?_ _ _ _ _ _ _ rfl rfl rfl rfl ?_ ?_; rotate_left 3; (intro s hs; cases hs; rfl); (all_goals rfl)) | (refine steps_build4 (by decide) _ _ _ _ ?_ ?_ _ _ _ _ _ _ _ _ rfl rfl rfl rfl rfl ?_ ?_; rotate_left 3; (intro s hs; cases hs; rfl); (all_goals rfl)) | (refine steps_build5 (by decide) _ _ _ _ _ ?_ ?_ _ _ _ _ _ _ _ _ _ _ rfl rfl rfl rfl rfl rfl ?_ ?_; rotate_left 3; (intro s hs; cases hs; rfl); (all_goals rfl)) | (refine steps_build6 (by decide) _ _ _ _ _ _ ?_ ?_ _ _ _ _ _ _ _ _ _ _ _ _ rfl rfl rfl rfl rfl rfl rfl ?_ ?_; rotate_left 3; (intro s hs; cases hs; rfl); (all_goals rfl)) | (refine steps_build7 (by decide) _ _ _ _ _ _ _ ?_ ?_ _ _ _ _ _ _ _ _ _ _ _ _ _ _ rfl rfl rfl rfl rfl rfl rfl rfl ?_ ?_; rotate_left 3; (intro s hs; cases hs; rfl); (all_goals rfl)) | (refine steps_build8 (by decide) _ _ _ _ _ _ _ _ ?_ ?_ _ _ _ _ _ _ _ _ _ _ _ _ _ _ _ _ rfl rfl rfl rfl rfl rfl rfl rfl rfl ?_ ?_; rotate_left 3; (intro s hs; cases hs; rfl); (all_goals rfl)) | (refine steps_build9 (by decide) _ _ _ _ _ _ _ _ _ ?_ ?_ _ _ _ _ _ _ _ _ _ _ _ _ _ _ _ _ _ _ rfl rfl rfl rfl rfl rfl rfl rfl rfl rfl ?_ ?_; rotate_left 3; (intro s hs; cases hs; rfl); (all_goals rfl)) | (refine steps_build10 (by decide) _ _ _ _ _ _ _ _ _ _ ?_ ?_ _ _ _ _ _ _ _ _ _ _ _ _ _ _ _ _ _ _ _ _ rfl rfl rfl rfl rfl rfl rfl rfl rfl rfl rfl ?_ ?_; rotate_left 3; (intro s hs; cases hs; rfl); (all_goals rfl)) | (fail)))); exact True.intro)
  · intro a1 q w1 hq0 hq1 hdef hsz hnear hrd1 hg hst
    have k2 : a1.tmps.getD 2 undef = _ := (hg 2).1
    obtain ⟨u3, k3, l3, g3⟩ := hg 3
    obtain ⟨u4, k4, l4, g4⟩ := hg 4
    have b3 : -101 ≤ u3 ∧ u3 ≤ 101 := ⟨l3, g3⟩
    have b4 : -1 ≤ u4 ∧ u4 ≤ 101 := ⟨l4, g4⟩
    obtain ⟨z0, z1, hb1, ⟨g00, g01⟩, g10, g11⟩ := res_lit2 (hst _ (List.Mem.head _))
    obtain ⟨os1, d1, rfl⟩ : ∃ os d, w1 = plus (w.alloc (.cells #[.int .i64 z0, .int .i64 z1] 25)) os d := by
      refine plus_of_below (Below.top (near_low ?_ (by omega) hnear (by simp)) hb1)
      repeat (first | with_reducible exact Below.refl _ _ | with_reducible apply below_alloc | with_reducible apply below_drw | with_reducible apply below_drew | with_reducible apply below_drewN | with_reducible apply below_plus | with_reducible apply below_set | (simp; done))
    clear hnear hg hst hb1 hrd1
    (obtain ⟨tm, df⟩ := a1; obtain rfl : df = [] := hdef; simp only at k2 k3 k4; have hlit : tm = #[tm.getD 0 undef, tm.getD 1 undef, tm.getD 2 undef, tm.getD 3 undef, tm.getD 4 undef, tm.getD 5 undef, tm.getD 6 undef, tm.getD 7 undef, tm.getD 8 undef, tm.getD 9 undef, tm.getD 10 undef, tm.getD 11 undef, tm.getD 12 undef, tm.getD 13 undef, tm.getD 14 undef, tm.getD 15 undef, tm.getD 16 undef, tm.getD 17 undef, tm.getD 18 undef, tm.getD 19 undef, tm.getD 20 undef, tm.getD 21 undef, tm.getD 22 undef, tm.getD 23 undef, tm.getD 24 undef, tm.getD 25 undef] := lit_of_size tm 26 hsz; rw [k2, k3, k4] at hlit; clear k2 k3 k4; generalize tm.getD 0 undef = u0 at hlit; generalize tm.getD 1 undef = u1 at hlit; generalize tm.getD 5 undef = u5 at hlit; generalize tm.getD 6 undef = u6 at hlit; generalize tm.getD 7 undef = u7 at hlit; generalize tm.getD 8 undef = u8 at hlit; generalize tm.getD 9 undef = u9 at hlit; generalize tm.getD 10 undef = u10 at hlit; generalize tm.getD 11 undef = u11 at hlit; generalize tm.getD 12 undef = u12 at hlit; generalize tm.getD 13 undef = u13 at hlit; generalize tm.getD 14 undef = u14 at hlit; generalize tm.getD 15 undef = u15 at hlit; generalize tm.getD 16 undef = u16 at hlit; generalize tm.getD 17 undef = u17 at hlit; generalize tm.getD 18 undef = u18 at hlit; generalize tm.getD 19 undef = u19 at hlit; generalize tm.getD 20 undef = u20 at hlit; generalize tm.getD 21 undef = u21 at hlit; generalize tm.getD 22 undef = u22 at hlit; generalize tm.getD 23 undef = u23 at hlit; generalize tm.getD 24 undef = u24 at hlit; generalize tm.getD 25 undef = u25 at hlit; clear hsz; subst hlit)
    apply_assumption
    go_wp2
    refine bodyPost_ret (v := .tuple #[.agg #[.int .i64 z0, .int .i64 z1], .int .i64 u3, .int .i64 u4]) (by simp [results, Try.results28, go_sem]) rfl ⟨_, _, _, _, ⟨⟨g00, g01⟩, g10, g11⟩, b3, b4, rfl, up_of_below ?_⟩
    repeat (first | with_reducible exact Below.refl _ _ | with_reducible apply below_alloc | with_reducible apply below_drw | with_reducible apply below_drew | with_reducible apply below_drewN | with_reducible apply below_plus | with_reducible apply below_set | (simp; done))

set_option maxHeartbeats 2000000 in
theorem l20Gain_any (b : Nat) (a : Option Addr) (n c : Nat) (p m : Int) (w : World) (hr : Rd w b a n c p) (hp : 0 ≤ p) (hp1 : p ≤ 900000) (hm : 0 ≤ m) (hm1 : m ≤ 1000000) :
    Calls Try.prog 49 #[.pointer (some ⟨b, 0, none⟩), .int .i64 m] w fun e w' => ∃ g : Int, (-1 ≤ g ∧ g ≤ 65) ∧ e = .returned (.int .i64 g) ∧ Gone w b p 2 w' := by
  have hlt := hr.lt
  have hle := Nat.le_of_lt hlt
  have h1 := hr.at_
  go_enter Try.func49, Try.ntmps49
  go_wp2_with (first | (go_at_call 48; apply Calls.mono; (focus (with_reducible apply pick2_any; (focus (repeat (first | with_reducible exact hr | (with_reducible apply Rd.base_at hs1 hB1; simp; done) | with_reducible apply Rd.plus | with_reducible apply Rd.drew | with_reducible apply Rd.drewN | with_reducible apply Rd.drw | with_reducible apply Rd.alloc | with_reducible apply Rd.set))); all_goals omega)); rintro e w1 ⟨x, d, rfl | rfl, rfl, rfl⟩) | (go_at_call 48; apply Calls.mono; (focus (with_reducible apply pick_any (m := 65); (focus (repeat (first | with_reducible exact hr | (with_reducible apply Rd.base_at hs1 hB1; simp; done) | with_reducible apply Rd.plus | with_reducible apply Rd.drew | with_reducible apply Rd.drewN | with_reducible apply Rd.drw | with_reducible apply Rd.alloc | with_reducible apply Rd.set))); all_goals omega)); rintro e w1 ⟨x1, d, hx10, hx11, rfl, rfl⟩) | (go_at_call 51; apply Calls.mono; (focus (apply odd_any; (focus (repeat (first | with_reducible exact hr | (with_reducible apply Rd.base_at hs1 hB1; simp; done) | with_reducible apply Rd.plus | with_reducible apply Rd.drew | with_reducible apply Rd.drewN | with_reducible apply Rd.drw | with_reducible apply Rd.alloc | with_reducible apply Rd.set))); all_goals omega)); rintro e w1 ⟨t, p', d, hp0, hp1, rfl, rfl⟩; cases t))
  all_goals
    go_ret
    refine ⟨_, ?_, rfl, gone ?_ ?_ ?_ ?_⟩
    rotate_left 4
    focus
      repeat (first | with_reducible exact Below.refl _ _ | with_reducible apply below_alloc | with_reducible apply below_drw | with_reducible apply below_drew | with_reducible apply below_drewN | with_reducible apply below_plus | with_reducible apply below_set | (simp; done))
    all_goals omega
theorem gain_draws (b : Nat) (rs : List Nat) (c : Option Addr × Nat × Nat) (m : Int) (hm : 0 ≤ m) (hm1 : m ≤ 1000000) : DrawsTo b rs c 2 49 m (.int (-1) 65) := by
  intro w q hr h0 h1
  refine (l20Gain_any b _ _ _ q m w hr h0 h1 hm hm1).mono ?_
  rintro e w' ⟨g, ⟨hg0, hg1⟩, rfl, hG⟩
  exact ⟨_, rfl, fun W => ⟨g, rfl, hg0, hg1⟩, hG⟩

end Go.Proofs.Ytelcaafnjahbkaa
