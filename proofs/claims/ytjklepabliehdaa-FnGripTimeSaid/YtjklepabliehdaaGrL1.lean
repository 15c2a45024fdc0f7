/-
  The walks of the laws on the gripper. No condition.
-/
import Derived.Test.YtjklepabliehdaaCtDraw3
import Derived.Test.YtjklepabliehdaaGr
import Derived.Test.YtjklepabliehdaaAbsF
namespace Go.Proofs.Ytjklepabliehdaa
open Go.RowKit

set_option maxHeartbeats 4000000 in
theorem lawGripStep_any (a : Option Addr) (n c : Nat) (w : World) (hb : Bytes w w.heap.size a n) (hnc : n ≤ c) (hcm : c ≤ maxLen) :
    Calls Try.prog 6 #[.slice a n c] w fun e w' => e = .returned (.bool true) ∧ Up w w' := by
  have hmm : c ≤ 9223372036854775807 := by unfold maxLen at hcm; omega
  by_cases hn : n ≤ 1048576
  · go_enter Try.func6, Try.ntmps6
    go_wp2_with (go_at_call 17; refine (drawGripStep_any _ _ _ _ hb hnc hcm).mono ?_; rintro e w1 ⟨x, t, s, o, hD, rfl, os0, d0, rfl⟩)
    obtain ⟨⟨x1, x2⟩, ⟨t1, t2⟩, ⟨s1, s2⟩, o1, o2⟩ := hD
    cases hB : gripB x t s o
    · have e0 : gripF x t s o = -1 := by rw [gripF, hB]; rfl
      have e1 : gripK x t s o = false := by rw [gripK, hB]; rfl
      clear hB
      go_wp2_with (first | (go_at_call 18; refine (grip_any _ _ _ _ _).mono ?_; rintro e w' ⟨rfl, rfl⟩) | (go_at_call 19; refine (sGrip_any _ _ _ _ _).mono ?_; rintro e w' ⟨rfl, rfl⟩) | (go_at_call 16; refine (alive_any _).mono ?_; rintro e w' ⟨rfl, rfl⟩))
      go_ret
      exact ⟨rfl, up_of_below (by repeat (first | with_reducible exact Below.refl _ _ | with_reducible apply below_alloc | with_reducible apply below_drw | with_reducible apply below_drew | with_reducible apply below_drewN | with_reducible apply below_plus | with_reducible apply below_set | (simp; done)))⟩
    · have e0 : gripF x t s o = gripG x t s o := by rw [gripF, if_pos hB]
      have e1 : gripK x t s o = gripH x t s o := by rw [gripK, hB]; rfl
      have hv := gripB_t.1 hB
      have hg := gripG_eq (w := x) (t := t) (s := s) (o := o) hv.2.2.2.1
      have he := gripE_near (w := x) (t := t) (o := o)
      have hobj : x < o ∨ o ≤ gripG x t s o := by
        unfold gripG; split
        · right; omega
        · left; omega
      have hH : gripH x t s o = true → gripG x t s o = o ∧ 1 ≤ o := by unfold gripH; simp; omega
      obtain ⟨G, hG⟩ : ∃ G, gripG x t s o = G := ⟨_, rfl⟩
      obtain ⟨H, hHv⟩ : ∃ H, gripH x t s o = H := ⟨_, rfl⟩
      rw [hG] at e0 hg hobj hH
      rw [hHv] at e1 hH
      have f1 : absF (G - x) ≤ s := by unfold absF; omega
      have f2 : (if t < x then t else x) ≤ G := by split <;> omega
      have f3 : G ≤ (if t > x then t else x) := by split <;> omega
      have f4 : 0 ≤ G := by omega
      have f5 : G ≤ 200 := by omega
      clear hB hv hg he hG hHv
      cases H
      · clear hH
        rcases hobj with f6 | f6
        all_goals
          by_cases c1 : t < x
          all_goals by_cases c2 : x < t
          all_goals (try omega)
          all_goals (try simp only [c1, if_true, if_false] at f2)
          all_goals (try simp only [gt_iff_lt, c2, if_true, if_false] at f3)
          all_goals
            go_wp2_with (first | (go_at_call 18; refine (grip_any _ _ _ _ _).mono ?_; rintro e w' ⟨rfl, rfl⟩) | (go_at_call 19; refine (sGrip_any _ _ _ _ _).mono ?_; rintro e w' ⟨rfl, rfl⟩) | (go_at_call 20; refine (abs_any _ _ (by omega) (by omega)).mono ?_; rintro e w' ⟨rfl, rfl⟩))
            all_goals
              go_ret
              exact ⟨rfl, up_of_below (by repeat (first | with_reducible exact Below.refl _ _ | with_reducible apply below_alloc | with_reducible apply below_drw | with_reducible apply below_drew | with_reducible apply below_drewN | with_reducible apply below_plus | with_reducible apply below_set | (simp; done)))⟩
      · obtain ⟨rfl, f7⟩ := hH rfl
        have f8 : 0 < G := by omega
        clear hH hobj
        all_goals
          by_cases c1 : t < x
          all_goals by_cases c2 : x < t
          all_goals (try omega)
          all_goals (try simp only [c1, if_true, if_false] at f2)
          all_goals (try simp only [gt_iff_lt, c2, if_true, if_false] at f3)
          all_goals
            go_wp2_with (first | (go_at_call 18; refine (grip_any _ _ _ _ _).mono ?_; rintro e w' ⟨rfl, rfl⟩) | (go_at_call 19; refine (sGrip_any _ _ _ _ _).mono ?_; rintro e w' ⟨rfl, rfl⟩) | (go_at_call 20; refine (abs_any _ _ (by omega) (by omega)).mono ?_; rintro e w' ⟨rfl, rfl⟩))
            all_goals
              go_ret
              exact ⟨rfl, up_of_below (by repeat (first | with_reducible exact Below.refl _ _ | with_reducible apply below_alloc | with_reducible apply below_drw | with_reducible apply below_drew | with_reducible apply below_drewN | with_reducible apply below_plus | with_reducible apply below_set | (simp; done)))⟩
  · go_enter Try.func6, Try.ntmps6
    go_wp2
    go_ret
    exact ⟨rfl, up_of_below (Below.refl _ _)⟩

set_option maxHeartbeats 4000000 in
theorem lawGripTime_any (a : Option Addr) (n c : Nat) (w : World) (hb : Bytes w w.heap.size a n) (hnc : n ≤ c) (hcm : c ≤ maxLen) :
    Calls Try.prog 8 #[.slice a n c] w fun e w' => e = .returned (.bool true) ∧ Up w w' := by
  have hmm : c ≤ 9223372036854775807 := by unfold maxLen at hcm; omega
  by_cases hn : n ≤ 1048576
  · go_enter Try.func8, Try.ntmps8
    go_wp2_with (go_at_call 22; refine (drawGripTime_any _ _ _ _ hb hnc hcm).mono ?_; rintro e w1 ⟨x, t, s, o, hD, rfl, os0, d0, rfl⟩)
    obtain ⟨⟨x1, x2⟩, ⟨t1, t2⟩, ⟨s1, s2⟩, o1, o2⟩ := hD
    cases hB : gripB x t s o
    · have e0 : gripM x t s o = -1 := by rw [gripM, hB]; rfl
      clear hB
      go_wp2_with (first | (go_at_call 23; refine (gripTime_any _ _ _ _ _).mono ?_; rintro e w' ⟨rfl, rfl⟩) | (go_at_call 24; refine (sGripTime_any _ _ _ _ _).mono ?_; rintro e w' ⟨rfl, rfl⟩) | (go_at_call 16; refine (alive_any _).mono ?_; rintro e w' ⟨rfl, rfl⟩))
      go_ret
      exact ⟨rfl, up_of_below (by repeat (first | with_reducible exact Below.refl _ _ | with_reducible apply below_alloc | with_reducible apply below_drw | with_reducible apply below_drew | with_reducible apply below_drewN | with_reducible apply below_plus | with_reducible apply below_set | (simp; done)))⟩
    · have e0 : gripM x t s o = gripT x t s o := by rw [gripM, if_pos hB]
      have hv := gripB_t.1 hB
      have hs : 1 ≤ s := hv.2.2.2.1
      have hT := gripT_le (w := x) (t := t) (o := o) hs
      have hT0 := gripT_nn (w := x) (t := t) (o := o) hs
      have he := gripE_near (w := x) (t := t) (o := o)
      have hEb := gripE_bd hB
      have hfast : s = 200 ∨ (s < 200 ∧ gripM x t (s + 1) o ≤ gripT x t s o) := by
        by_cases h200 : s = 200
        · exact .inl h200
        · refine .inr ⟨by omega, ?_⟩
          rw [gripM, if_pos (gripB_t.2 ⟨hv.1, hv.2.1, hv.2.2.1, by omega, by omega⟩)]
          exact gripT_faster hs
      obtain ⟨T, hTv⟩ : ∃ T, T = gripT x t s o := ⟨_, rfl⟩
      rw [← hTv] at e0 hT hT0 hfast
      have f1 : T ≤ absF (t - x) := by unfold absF; omega
      have f2 : T ≤ 200 := by omega
      have HT := Lib.hid hTv
      have HB := Lib.hid hB
      have HF := Lib.hid hfast
      clear hB hv hT he hEb hfast hTv
      go_wp2_with (first | (go_at_call 23; refine (gripTime_any _ _ _ _ _).mono ?_; rintro e w' ⟨rfl, rfl⟩) | (go_at_call 24; refine (sGripTime_any _ _ _ _ _).mono ?_; rintro e w' ⟨rfl, rfl⟩) | (go_at_call 16; refine (alive_any _).mono ?_; rintro e w' ⟨rfl, rfl⟩))
      clear e0
      go_loop [8, 9] (fun yv kv => ∃ (y : Int) (k : Nat), (k : Int) ≤ T ∧ yv = .int .i64 y ∧ kv = .int .i64 k ∧ Hid (gripB y t s o = true) ∧ Hid (gripT y t s o + k = T)) (fun _ kv => (T - intOf kv).toNat)
      case atStart => exact ⟨x, 0, by omega, rfl, rfl, HB, by show gripT x t s o + ((0 : Nat) : Int) = T; rw [HT.out]; omega⟩
      case round =>
        obtain ⟨y, k, hk, rfl, rfl, HY, HK⟩ := hrel
        have e0 : gripF y t s o = gripG y t s o := by rw [gripF, if_pos HY.out]
        by_cases hlt : (k : Int) < T
        · have hne : gripG y t s o ≠ y := by
            intro hc
            have h1 := gripT_rest hs hc
            have h2 := HK.out
            omega
          have HS := Lib.hid (gripT_step hs hne)
          have HBn := Lib.hid (gripB_next HY.out)
          clear hne
          go_wp2_with (first | (go_at_call 18; refine (grip_any _ _ _ _ _).mono ?_; rintro e w' ⟨rfl, rfl⟩))
          go_round
          case rel => exact ⟨gripG y t s o, k + 1, by omega, rfl, by go_num, HBn, by have h1 := HS.out; have h2 := HK.out; show _ + ((k + 1 : Nat) : Int) = _; omega⟩
          case measure => simp [intOf]; omega
        · have hz : gripT y t s o = 0 := by
            have := HK.out
            have := gripT_nn (w := y) (t := t) (o := o) hs
            omega
          have hc : gripG y t s o = y := by
            refine Classical.byContradiction fun hne => ?_
            have h1 := gripT_step hs hne
            have h2 := gripT_nn (w := gripG y t s o) (t := t) (o := o) hs
            omega
          have e1 : gripF y t s o = y := e0.trans hc
          clear e0 hc hz
          rcases HF.out with f3 | ⟨f3, f4⟩
          · subst f3
            go_wp2_with (first | (go_at_call 18; refine (grip_any _ _ _ _ _).mono ?_; rintro e w' ⟨rfl, rfl⟩) | (go_at_call 20; refine (abs_any _ _ (by omega) (by omega)).mono ?_; rintro e w' ⟨rfl, rfl⟩))
            go_ret
            exact ⟨rfl, up_of_below (by repeat (first | with_reducible exact Below.refl _ _ | with_reducible apply below_alloc | with_reducible apply below_drw | with_reducible apply below_drew | with_reducible apply below_drewN | with_reducible apply below_plus | with_reducible apply below_set | (simp; done)))⟩
          · have b : (s == 200) = false := by simp; omega
            go_wp2_with (first | (go_at_call 18; refine (grip_any _ _ _ _ _).mono ?_; rintro e w' ⟨rfl, rfl⟩) | (go_at_call 20; refine (abs_any _ _ (by omega) (by omega)).mono ?_; rintro e w' ⟨rfl, rfl⟩) | (go_at_call 23; refine (gripTime_any _ _ _ _ _).mono ?_; rintro e w' ⟨rfl, rfl⟩))
            go_ret
            exact ⟨rfl, up_of_below (by repeat (first | with_reducible exact Below.refl _ _ | with_reducible apply below_alloc | with_reducible apply below_drw | with_reducible apply below_drew | with_reducible apply below_drewN | with_reducible apply below_plus | with_reducible apply below_set | (simp; done)))⟩
  · go_enter Try.func8, Try.ntmps8
    go_wp2
    go_ret
    exact ⟨rfl, up_of_below (Below.refl _ _)⟩

end Go.Proofs.Ytjklepabliehdaa
