/-
  Contracts of the functions that draw motors. Conditions: those that each theorem states.
-/
import Derived.Test.YtelcaafnjahbkaaMo3
import Derived.Test.YtelcaafnjahbkaaOdd
import Derived.Deep.RegionWith
namespace Go.Proofs.Ytelcaafnjahbkaa
open Go.RowKit

/-- A drawn motor. -/
def MoD (x y : Int) : Prop := (-10001 ≤ x ∧ x ≤ 10001) ∧ -201 ≤ y ∧ y ≤ 201
def DrewMotor (w : World) (b : Nat) (p : Int) (e : Ending) (w' : World) : Prop :=
  ∃ x y, MoD x y ∧ e = .returned (.agg #[.int .i64 x, .int .i64 y]) ∧ Gone w b p 9 w'

set_option maxHeartbeats 40000000 in
theorem l20Motor_any (b : Nat) (a : Option Addr) (n c : Nat) (p m : Int) (w : World) (hr : Rd w b a n c p) (hp : 0 ≤ p) (hp1 : p ≤ 900000) (hm : 0 ≤ m) (hm1 : m ≤ 1000000) :
    Calls Try.prog 44 #[.pointer (some ⟨b, 0, none⟩), .int .i64 m] w (DrewMotor w b p) := by
  have hlt := hr.lt
  have hle := Nat.le_of_lt hlt
  have h1 := hr.at_
  go_enter Try.func44, Try.ntmps44
  go_wp2_with (first | (go_at_call 48; apply Calls.mono; (focus (with_reducible apply pick_any (m := 400); (focus (repeat (first | with_reducible exact hr | (with_reducible apply Rd.base_at hs1 hB1; simp; done) | with_reducible apply Rd.plus | with_reducible apply Rd.drew | with_reducible apply Rd.drewN | with_reducible apply Rd.drw | with_reducible apply Rd.alloc | with_reducible apply Rd.set))); all_goals omega)); rintro e w1 ⟨x1, d, hx10, hx11, rfl, rfl⟩) | (go_at_call 48; apply Calls.mono; (focus (with_reducible apply pick_any (m := 81); (focus (repeat (first | with_reducible exact hr | (with_reducible apply Rd.base_at hs1 hB1; simp; done) | with_reducible apply Rd.plus | with_reducible apply Rd.drew | with_reducible apply Rd.drewN | with_reducible apply Rd.drw | with_reducible apply Rd.alloc | with_reducible apply Rd.set))); all_goals omega)); rintro e w1 ⟨x2, d, hx20, hx21, rfl, rfl⟩) | (go_at_call 48; apply Calls.mono; (focus (with_reducible apply pick2_any; (focus (repeat (first | with_reducible exact hr | (with_reducible apply Rd.base_at hs1 hB1; simp; done) | with_reducible apply Rd.plus | with_reducible apply Rd.drew | with_reducible apply Rd.drewN | with_reducible apply Rd.drw | with_reducible apply Rd.alloc | with_reducible apply Rd.set))); all_goals omega)); rintro e w1 ⟨x, d, rfl | rfl, rfl, rfl⟩) | (go_at_call 51; apply Calls.mono; (focus (apply odd_any; (focus (repeat (first | with_reducible exact hr | (with_reducible apply Rd.base_at hs1 hB1; simp; done) | with_reducible apply Rd.plus | with_reducible apply Rd.drew | with_reducible apply Rd.drewN | with_reducible apply Rd.drw | with_reducible apply Rd.alloc | with_reducible apply Rd.set))); all_goals omega)); rintro e w1 ⟨t, p', d, hp0, hp1, rfl, rfl⟩; cases t))
  all_goals first
    | (refine bodyPost_ret (v := .agg #[.int .i64 _, .int .i64 _]) (by simp [results, Try.results44, go_sem] <;> first | exact ⟨rfl, rfl⟩ | exact rfl) rfl ⟨_, _, ?_, rfl, gone ?_ ?_ ?_ ?_⟩
       rotate_left 4
       focus
         repeat (first | with_reducible exact Below.refl _ _ | with_reducible apply below_alloc | with_reducible apply below_drw | with_reducible apply below_drew | with_reducible apply below_drewN | with_reducible apply below_plus | with_reducible apply below_set | (simp; done))
       all_goals (first | omega | (unfold MoD; omega)))
    | (go_region_with (first | (go_at_call 48; apply Calls.mono; (focus (with_reducible apply pick_any (m := 2); (focus (repeat (first | with_reducible exact hr | (with_reducible apply Rd.base_at hs1 hB1; simp; done) | with_reducible apply Rd.plus | with_reducible apply Rd.drew | with_reducible apply Rd.drewN | with_reducible apply Rd.drw | with_reducible apply Rd.alloc | with_reducible apply Rd.set))); all_goals omega)); rintro e w1 ⟨x3, d, hx30, hx31, rfl, rfl⟩; obtain ⟨y3, hy0, hy1, hy⟩ := sel_list [10000, -10000] (-10000) 10000 (by simp) x3 hx30 hx31; simp only [List.map] at hy; obtain ⟨z3, hz0, hz1, hz⟩ := sel_list [200, -200] (-200) 200 (by simp) x3 hx30 hx31; simp only [List.map] at hz; have hxn : x3.toNat < 2 := by omega))
       all_goals
         go_wp2_with (first | (go_at_call 48; apply Calls.mono; (focus (with_reducible apply pick2_any; (focus (repeat (first | with_reducible exact hr | (with_reducible apply Rd.base_at hs1 hB1; simp; done) | with_reducible apply Rd.plus | with_reducible apply Rd.drew | with_reducible apply Rd.drewN | with_reducible apply Rd.drw | with_reducible apply Rd.alloc | with_reducible apply Rd.set))); all_goals omega)); rintro e w1 ⟨x, d, rfl | rfl, rfl, rfl⟩) | (go_at_call 51; apply Calls.mono; (focus (apply odd_any; (focus (repeat (first | with_reducible exact hr | (with_reducible apply Rd.base_at hs1 hB1; simp; done) | with_reducible apply Rd.plus | with_reducible apply Rd.drew | with_reducible apply Rd.drewN | with_reducible apply Rd.drw | with_reducible apply Rd.alloc | with_reducible apply Rd.set))); all_goals omega)); rintro e w1 ⟨t, p', d, hp0, hp1, rfl, rfl⟩; cases t))
         all_goals
           refine bodyPost_ret (v := .agg #[.int .i64 _, .int .i64 _]) (by simp [results, Try.results44, go_sem] <;> first | exact ⟨rfl, rfl⟩ | exact rfl) rfl ⟨_, _, ?_, rfl, gone ?_ ?_ ?_ ?_⟩
           rotate_left 4
           focus
             repeat (first | with_reducible exact Below.refl _ _ | with_reducible apply below_alloc | with_reducible apply below_drw | with_reducible apply below_drew | with_reducible apply below_drewN | with_reducible apply below_plus | with_reducible apply below_set | (simp; done))
           all_goals (first | omega | (unfold MoD; omega)))

end Go.Proofs.Ytelcaafnjahbkaa
