/-
  Contracts of the functions that draw speeds, distances and accelerations. Conditions: those that each theorem states.
-/
import Derived.Test.YtfdpdhinigfpfaaSp
import Derived.Test.YtfdpdhinigfpfaaOdd
namespace Go.Proofs.Ytfdpdhinigfpfaa
open Go.RowKit

/-- A number from lo to hi is drawn; the reader has gone on by at most k places. -/
def DrewInt (w : World) (b : Nat) (p : Int) (lo hi k : Int) (e : Ending) (w' : World) : Prop :=
  ∃ x, lo ≤ x ∧ x ≤ hi ∧ e = .returned (.int .i64 x) ∧ Gone w b p k w'

set_option maxHeartbeats 1000000 in
theorem l20Rise_any (b : Nat) (a : Option Addr) (n c : Nat) (p m : Int) (w : World) (hr : Rd w b a n c p) (hp : 0 ≤ p) (hp1 : p ≤ 900000) (hm : 0 ≤ m) (hm1 : m ≤ 1000000) :
    Calls Try.prog 41 #[.pointer (some ⟨b, 0, none⟩), .int .i64 m] w (DrewInt w b p 0 51 3) := by
  have hlt := hr.lt
  have hle := Nat.le_of_lt hlt
  have h1 := hr.at_
  go_enter Try.func41, Try.ntmps41
  go_wp2_with (first | (go_at_call 40; apply Calls.mono; (focus (with_reducible apply pick2_any; (focus (repeat (first | with_reducible exact hr | (with_reducible apply Rd.base_at hs1 hB1; simp; done) | with_reducible apply Rd.plus | with_reducible apply Rd.drew | with_reducible apply Rd.drewN | with_reducible apply Rd.drw | with_reducible apply Rd.alloc | with_reducible apply Rd.set))); all_goals omega)); rintro e w1 ⟨x, d, rfl | rfl, rfl, rfl⟩) | (go_at_call 40; apply Calls.mono; (focus (apply pick_any; (focus (repeat (first | with_reducible exact hr | (with_reducible apply Rd.base_at hs1 hB1; simp; done) | with_reducible apply Rd.plus | with_reducible apply Rd.drew | with_reducible apply Rd.drewN | with_reducible apply Rd.drw | with_reducible apply Rd.alloc | with_reducible apply Rd.set))); all_goals omega)); rintro e w1 ⟨x, d, hx0, hx1, rfl, rfl⟩) | (go_at_call 54; apply Calls.mono; (focus (apply odd_any; (focus (repeat (first | with_reducible exact hr | (with_reducible apply Rd.base_at hs1 hB1; simp; done) | with_reducible apply Rd.plus | with_reducible apply Rd.drew | with_reducible apply Rd.drewN | with_reducible apply Rd.drw | with_reducible apply Rd.alloc | with_reducible apply Rd.set))); all_goals omega)); rintro e w1 ⟨t, p', d, hp0, hp1, rfl, rfl⟩; cases t))
  all_goals
    go_ret
    refine ⟨_, ?_, ?_, rfl, gone ?_ ?_ ?_ ?_⟩
    rotate_left 5
    focus
      repeat (first | with_reducible exact Below.refl _ _ | with_reducible apply below_alloc | with_reducible apply below_drw | with_reducible apply below_drew | with_reducible apply below_drewN | with_reducible apply below_plus | with_reducible apply below_set | (simp; done))
    all_goals omega

set_option maxHeartbeats 1000000 in
theorem l20Far_any (b : Nat) (a : Option Addr) (n c : Nat) (p m : Int) (w : World) (hr : Rd w b a n c p) (hp : 0 ≤ p) (hp1 : p ≤ 900000) (hm : 0 ≤ m) (hm1 : m ≤ 1000000) :
    Calls Try.prog 43 #[.pointer (some ⟨b, 0, none⟩), .int .i64 m] w (DrewInt w b p (-1) 5001 4) := by
  have hlt := hr.lt
  have hle := Nat.le_of_lt hlt
  have h1 := hr.at_
  go_enter Try.func43, Try.ntmps43
  go_wp2_with (first | (go_at_call 40; apply Calls.mono; (focus (with_reducible apply pick2_any; (focus (repeat (first | with_reducible exact hr | (with_reducible apply Rd.base_at hs1 hB1; simp; done) | with_reducible apply Rd.plus | with_reducible apply Rd.drew | with_reducible apply Rd.drewN | with_reducible apply Rd.drw | with_reducible apply Rd.alloc | with_reducible apply Rd.set))); all_goals omega)); rintro e w1 ⟨x, d, rfl | rfl, rfl, rfl⟩) | (go_at_call 40; apply Calls.mono; (focus (with_reducible apply pick_any (m := 30); (focus (repeat (first | with_reducible exact hr | (with_reducible apply Rd.base_at hs1 hB1; simp; done) | with_reducible apply Rd.plus | with_reducible apply Rd.drew | with_reducible apply Rd.drewN | with_reducible apply Rd.drw | with_reducible apply Rd.alloc | with_reducible apply Rd.set))); all_goals omega)); rintro e w1 ⟨x1, d, hx10, hx11, rfl, rfl⟩) | (go_at_call 40; apply Calls.mono; (focus (with_reducible apply pick_any (m := 256); (focus (repeat (first | with_reducible exact hr | (with_reducible apply Rd.base_at hs1 hB1; simp; done) | with_reducible apply Rd.plus | with_reducible apply Rd.drew | with_reducible apply Rd.drewN | with_reducible apply Rd.drw | with_reducible apply Rd.alloc | with_reducible apply Rd.set))); all_goals omega)); rintro e w1 ⟨x2, d, hx20, hx21, rfl, rfl⟩) | (go_at_call 40; apply Calls.mono; (focus (with_reducible apply pick_any (m := 8); (focus (repeat (first | with_reducible exact hr | (with_reducible apply Rd.base_at hs1 hB1; simp; done) | with_reducible apply Rd.plus | with_reducible apply Rd.drew | with_reducible apply Rd.drewN | with_reducible apply Rd.drw | with_reducible apply Rd.alloc | with_reducible apply Rd.set))); all_goals omega)); rintro e w1 ⟨x3, d, hx30, hx31, rfl, rfl⟩; obtain ⟨y3, hy0, hy1, hy⟩ := sel_list [0, 0, 0, 1, 1, 2, 3, 4] 0 4 (by simp) x3 hx30 hx31; simp only [List.map] at hy; obtain ⟨z3, hz0, hz1, hz⟩ := sel_list [x1, x2 * 4, 0, 1, 5000] 0 5000 (by simp; omega) y3 hy0 (by simp; omega); simp only [List.map] at hz; have hyn : y3.toNat < 5 := by omega) | (go_at_call 54; apply Calls.mono; (focus (apply odd_any; (focus (repeat (first | with_reducible exact hr | (with_reducible apply Rd.base_at hs1 hB1; simp; done) | with_reducible apply Rd.plus | with_reducible apply Rd.drew | with_reducible apply Rd.drewN | with_reducible apply Rd.drw | with_reducible apply Rd.alloc | with_reducible apply Rd.set))); all_goals omega)); rintro e w1 ⟨t, p', d, hp0, hp1, rfl, rfl⟩; cases t))
  all_goals
    go_ret
    refine ⟨_, ?_, ?_, rfl, gone ?_ ?_ ?_ ?_⟩
    rotate_left 5
    focus
      repeat (first | with_reducible exact Below.refl _ _ | with_reducible apply below_alloc | with_reducible apply below_drw | with_reducible apply below_drew | with_reducible apply below_drewN | with_reducible apply below_plus | with_reducible apply below_set | (simp; done))
    all_goals omega

set_option maxHeartbeats 1000000 in
theorem drawStop_any (a : Option Addr) (n c : Nat) (w : World) (hb : Bytes w w.heap.size a n) (hnc : n ≤ c) (hcm : c ≤ maxLen) :
    Calls Try.prog 15 #[.slice a n c] w fun e w' => ∃ v r, -1 ≤ v ∧ v ≤ 201 ∧ 0 ≤ r ∧ r ≤ 51 ∧ e = .returned (.tuple #[.int .i64 v, .int .i64 r]) ∧ Up w w' := by
  go_enter Try.func15, Try.ntmps15
  go_wp2_with (first | (go_at_call 39; apply Calls.mono; (focus (apply open_any; (focus (apply Bytes.later hb; repeat (first | with_reducible exact Below.refl _ _ | with_reducible apply below_alloc | with_reducible apply below_drw | with_reducible apply below_drew | with_reducible apply below_drewN | with_reducible apply below_plus | with_reducible apply below_set | (simp; done)))); exact hnc; exact hcm)); rintro e w1 ⟨n1, c1, hs1, hB1, rfl, rfl⟩) | (go_at_call 40; apply Calls.mono; (focus (apply pick_any; (focus (repeat (first | with_reducible exact hr | (with_reducible apply Rd.base_at hs1 hB1; simp; done) | with_reducible apply Rd.plus | with_reducible apply Rd.drew | with_reducible apply Rd.drewN | with_reducible apply Rd.drw | with_reducible apply Rd.alloc | with_reducible apply Rd.set))); all_goals omega)); rintro e w1 ⟨x, d, hx0, hx1, rfl, rfl⟩) | (go_at_call 41; apply Calls.mono; (focus (apply l20Rise_any; (focus (repeat (first | with_reducible exact hr | (with_reducible apply Rd.base_at hs1 hB1; simp; done) | with_reducible apply Rd.plus | with_reducible apply Rd.drew | with_reducible apply Rd.drewN | with_reducible apply Rd.drw | with_reducible apply Rd.alloc | with_reducible apply Rd.set))); all_goals omega)); rintro e w1 ⟨r, hr0, hr1, rfl, p', hp0, hp1, os, d, rfl⟩))
  go_ret2
  refine ⟨_, _, ?_, ?_, ?_, ?_, rfl, up_of_below ?_⟩
  rotate_left 4
  focus
    repeat (first | with_reducible exact Below.refl _ _ | with_reducible apply below_alloc | with_reducible apply below_drw | with_reducible apply below_drew | with_reducible apply below_drewN | with_reducible apply below_plus | with_reducible apply below_set | (simp; done))
  all_goals omega

end Go.Proofs.Ytfdpdhinigfpfaa
