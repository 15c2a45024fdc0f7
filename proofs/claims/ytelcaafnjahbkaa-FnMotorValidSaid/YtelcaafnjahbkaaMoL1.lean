/-
  The walk of the law on valid motors. No condition.
-/
import Derived.Test.YtelcaafnjahbkaaMoDraw
namespace Go.Proofs.Ytelcaafnjahbkaa
open Go.RowKit

theorem motB_neg (x y : Int) : motB (-x) (-y) = motB x y := by
  cases h : motB x y
  · cases h' : motB (-x) (-y)
    · rfl
    · have g := motB_t.1 h'
      have : motB x y = true := motB_t.2 (by omega)
      rw [h] at this; exact absurd this (by decide)
  · have g := motB_t.1 h
    exact motB_t.2 (by omega)
theorem motB_fast (x : Int) : motB x 201 = false := by
  cases h : motB x 201
  · rfl
  · have := motB_t.1 h; omega

set_option maxHeartbeats 2000000 in
theorem drawMotorValid_any (a : Option Addr) (n c : Nat) (w : World) (hb : Bytes w w.heap.size a n) (hnc : n ≤ c) (hcm : c ≤ maxLen) :
    Calls Try.prog 21 #[.slice a n c] w fun e w' => ∃ x y, MoD x y ∧ e = .returned (.agg #[.int .i64 x, .int .i64 y]) ∧ Up w w' := by
  go_enter Try.func21, Try.ntmps21
  go_wp2_with (first | (go_at_call 45; apply Calls.mono; (focus (apply open_any; (focus (apply Bytes.later hb; repeat (first | with_reducible exact Below.refl _ _ | with_reducible apply below_alloc | with_reducible apply below_drw | with_reducible apply below_drew | with_reducible apply below_drewN | with_reducible apply below_plus | with_reducible apply below_set | (simp; done)))); exact hnc; exact hcm)); rintro e w1 ⟨n1, c1, hs1, hB1, rfl, rfl⟩) | (go_at_call 44; apply Calls.mono; (focus (apply l20Motor_any; (focus (repeat (first | with_reducible exact hr | (with_reducible apply Rd.base_at hs1 hB1; simp; done) | with_reducible apply Rd.plus | with_reducible apply Rd.drew | with_reducible apply Rd.drewN | with_reducible apply Rd.drw | with_reducible apply Rd.alloc | with_reducible apply Rd.set))); all_goals omega)); rintro e w1 ⟨x, y, hM, rfl, p', hp0, hp1, os, d, rfl⟩))
  refine bodyPost_ret (v := .agg #[.int .i64 _, .int .i64 _]) (by simp [results, Try.results21, go_sem] <;> first | exact ⟨rfl, rfl⟩ | exact rfl) rfl ⟨_, _, hM, rfl, up_of_below ?_⟩
  repeat (first | with_reducible exact Below.refl _ _ | with_reducible apply below_alloc | with_reducible apply below_drw | with_reducible apply below_drew | with_reducible apply below_drewN | with_reducible apply below_plus | with_reducible apply below_set | (simp; done))

set_option maxHeartbeats 2000000 in
theorem lawMotorValid_any (a : Option Addr) (n c : Nat) (w : World) (hb : Bytes w w.heap.size a n) (hnc : n ≤ c) (hcm : c ≤ maxLen) :
    Calls Try.prog 6 #[.slice a n c] w fun e w' => e = .returned (.bool true) ∧ Up w w' := by
  have hmm : c ≤ 9223372036854775807 := by unfold maxLen at hcm; omega
  by_cases hn : n ≤ 1048576
  · go_enter Try.func6, Try.ntmps6
    go_wp2_with (go_at_call 21; refine (drawMotorValid_any _ _ _ _ hb hnc hcm).mono ?_; rintro e w1 ⟨x, y, hM, rfl, os0, d0, rfl⟩)
    obtain ⟨⟨m1, m2⟩, m3, m4⟩ := hM
    have f1 := motB_neg x y
    have f2 := motB_fast x
    cases hv : motB x y
    · rw [hv] at f1
      go_wp2_with (first | (go_at_call 16; refine (motorValid_any _ _ _).mono ?_; rintro e w1 ⟨rfl, os, d, rfl⟩) | (go_at_call 14; refine (sMotorValid_any _ _ _).mono ?_; rintro e w1 ⟨rfl, os, d, rfl⟩) | (go_at_call 22; refine (alive_any _).mono ?_; rintro e w' ⟨rfl, rfl⟩))
      go_ret
      exact ⟨rfl, up_of_below (by repeat (first | with_reducible exact Below.refl _ _ | with_reducible apply below_alloc | with_reducible apply below_drw | with_reducible apply below_drew | with_reducible apply below_drewN | with_reducible apply below_plus | with_reducible apply below_set | (simp; done)))⟩
    · rw [hv] at f1
      go_wp2_with (first | (go_at_call 16; refine (motorValid_any _ _ _).mono ?_; rintro e w1 ⟨rfl, os, d, rfl⟩) | (go_at_call 14; refine (sMotorValid_any _ _ _).mono ?_; rintro e w1 ⟨rfl, os, d, rfl⟩) | (go_at_call 22; refine (alive_any _).mono ?_; rintro e w' ⟨rfl, rfl⟩))
      go_ret
      exact ⟨rfl, up_of_below (by repeat (first | with_reducible exact Below.refl _ _ | with_reducible apply below_alloc | with_reducible apply below_drw | with_reducible apply below_drew | with_reducible apply below_drewN | with_reducible apply below_plus | with_reducible apply below_set | (simp; done)))⟩
  · go_enter Try.func6, Try.ntmps6
    go_wp2
    go_ret
    exact ⟨rfl, up_of_below (Below.refl _ _)⟩

end Go.Proofs.Ytelcaafnjahbkaa
