/-
  Contracts of the functions that draw frames and points out of a code. Conditions: those that each theorem states.
-/
import Derived.Test.YtnflmbmhncndfaaFr
import Derived.Deep.RegionWith
namespace Go.Proofs.Ytnflmbmhncndfaa
open Go.RowKit

/-- A drawn frame. -/
def FrD (x y q : Int) : Prop := (-1000000 ≤ x ∧ x ≤ 1000000) ∧ (-1000000 ≤ y ∧ y ≤ 1000000) ∧ -1 ≤ q ∧ q ≤ 4
def DrewFrame (w : World) (b : Nat) (p : Int) (e : Ending) (w' : World) : Prop :=
  ∃ x y q, FrD x y q ∧ e = .returned (.agg #[.int .i64 x, .int .i64 y, .int .i64 q]) ∧ Gone w b p 7 w'

set_option maxHeartbeats 1000000 in
theorem l20Frame_any (b : Nat) (a : Option Addr) (n c : Nat) (p m : Int) (w : World) (hr : Rd w b a n c p) (hp : 0 ≤ p) (hp1 : p ≤ 900000) (hm : 0 ≤ m) (hm1 : m ≤ 1000000) :
    Calls Try.prog 38 #[.pointer (some ⟨b, 0, none⟩), .int .i64 m] w (DrewFrame w b p) := by
  have hlt := hr.lt
  have hle := Nat.le_of_lt hlt
  have h1 := hr.at_
  go_enter Try.func38, Try.ntmps38
  go_wp2_with (first | (go_at_call 45; apply Calls.mono; (focus (with_reducible apply pick2_any; (focus (repeat (first | with_reducible exact hr | (with_reducible apply Rd.base_at hs1 hB1; simp; done) | with_reducible apply Rd.plus | with_reducible apply Rd.drew | with_reducible apply Rd.drewN | with_reducible apply Rd.drw | with_reducible apply Rd.alloc | with_reducible apply Rd.set))); all_goals omega)); rintro e w1 ⟨x, d, rfl | rfl, rfl, rfl⟩) | (go_at_call 45; apply Calls.mono; (focus (apply pick_any; (focus (repeat (first | with_reducible exact hr | (with_reducible apply Rd.base_at hs1 hB1; simp; done) | with_reducible apply Rd.plus | with_reducible apply Rd.drew | with_reducible apply Rd.drewN | with_reducible apply Rd.drw | with_reducible apply Rd.alloc | with_reducible apply Rd.set))); all_goals omega)); rintro e w1 ⟨x, d, hx0, hx1, rfl, rfl⟩) | (go_at_call 46; apply Calls.mono; (focus (apply odd_any; (focus (repeat (first | with_reducible exact hr | (with_reducible apply Rd.base_at hs1 hB1; simp; done) | with_reducible apply Rd.plus | with_reducible apply Rd.drew | with_reducible apply Rd.drewN | with_reducible apply Rd.drw | with_reducible apply Rd.alloc | with_reducible apply Rd.set))); all_goals omega)); rintro e w1 ⟨t, p', d, hp0, hp1, rfl, rfl⟩; cases t))
  all_goals
    refine bodyPost_ret (v := .agg #[.int .i64 _, .int .i64 _, .int .i64 _]) (by simp [results, Try.results38, go_sem] <;> first | exact ⟨rfl, rfl, rfl⟩ | exact rfl) rfl ⟨_, _, _, ?_, rfl, gone ?_ ?_ ?_ ?_⟩
    rotate_left 4
    focus
      repeat (first | with_reducible exact Below.refl _ _ | with_reducible apply below_alloc | with_reducible apply below_drw | with_reducible apply below_drew | with_reducible apply below_drewN | with_reducible apply below_plus | with_reducible apply below_set | (simp; done))
    all_goals (first | omega | (unfold FrD; omega))

/-- A drawn point. -/
def PtD (x y : Int) : Prop := (-10001 ≤ x ∧ x ≤ 10001) ∧ -10001 ≤ y ∧ y ≤ 10001
def DrewPoint (w : World) (b : Nat) (p : Int) (e : Ending) (w' : World) : Prop :=
  ∃ x y, PtD x y ∧ e = .returned (.agg #[.int .i64 x, .int .i64 y]) ∧ Gone w b p 7 w'

set_option maxHeartbeats 1000000 in
theorem l20Point_any (b : Nat) (a : Option Addr) (n c : Nat) (p m : Int) (w : World) (hr : Rd w b a n c p) (hp : 0 ≤ p) (hp1 : p ≤ 900000) (hm : 0 ≤ m) (hm1 : m ≤ 1000000) :
    Calls Try.prog 44 #[.pointer (some ⟨b, 0, none⟩), .int .i64 m] w (DrewPoint w b p) := by
  have hlt := hr.lt
  have hle := Nat.le_of_lt hlt
  have h1 := hr.at_
  go_enter Try.func44, Try.ntmps44
  go_wp2_with (first | (go_at_call 45; apply Calls.mono; (focus (with_reducible apply pick3_any; (focus (repeat (first | with_reducible exact hr | (with_reducible apply Rd.base_at hs1 hB1; simp; done) | with_reducible apply Rd.plus | with_reducible apply Rd.drew | with_reducible apply Rd.drewN | with_reducible apply Rd.drw | with_reducible apply Rd.alloc | with_reducible apply Rd.set))); all_goals omega)); rintro e w1 ⟨x, d, rfl | rfl | rfl, rfl, rfl⟩) | (go_at_call 45; apply Calls.mono; (focus (apply pick_any; (focus (repeat (first | with_reducible exact hr | (with_reducible apply Rd.base_at hs1 hB1; simp; done) | with_reducible apply Rd.plus | with_reducible apply Rd.drew | with_reducible apply Rd.drewN | with_reducible apply Rd.drw | with_reducible apply Rd.alloc | with_reducible apply Rd.set))); all_goals omega)); rintro e w1 ⟨x, d, hx0, hx1, rfl, rfl⟩) | (go_at_call 46; apply Calls.mono; (focus (apply odd_any; (focus (repeat (first | with_reducible exact hr | (with_reducible apply Rd.base_at hs1 hB1; simp; done) | with_reducible apply Rd.plus | with_reducible apply Rd.drew | with_reducible apply Rd.drewN | with_reducible apply Rd.drw | with_reducible apply Rd.alloc | with_reducible apply Rd.set))); all_goals omega)); rintro e w1 ⟨t, p', d, hp0, hp1, rfl, rfl⟩; cases t))
  all_goals
    refine bodyPost_ret (v := .agg #[.int .i64 _, .int .i64 _]) (by simp [results, Try.results44, go_sem] <;> first | exact ⟨rfl, rfl⟩ | exact rfl) rfl ⟨_, _, ?_, rfl, gone ?_ ?_ ?_ ?_⟩
    rotate_left 4
    focus
      repeat (first | with_reducible exact Below.refl _ _ | with_reducible apply below_alloc | with_reducible apply below_drw | with_reducible apply below_drew | with_reducible apply below_drewN | with_reducible apply below_plus | with_reducible apply below_set | (simp; done))
    all_goals (first | omega | (unfold PtD; omega))

set_option maxHeartbeats 1000000 in
theorem drawFrameValid_any (a : Option Addr) (n c : Nat) (w : World) (hb : Bytes w w.heap.size a n) (hnc : n ≤ c) (hcm : c ≤ maxLen) :
    Calls Try.prog 16 #[.slice a n c] w fun e w' => ∃ x y q, FrD x y q ∧ e = .returned (.agg #[.int .i64 x, .int .i64 y, .int .i64 q]) ∧ Up w w' := by
  go_enter Try.func16, Try.ntmps16
  go_wp2_with (first | (go_at_call 39; apply Calls.mono; (focus (apply open_any; (focus (apply Bytes.later hb; repeat (first | with_reducible exact Below.refl _ _ | with_reducible apply below_alloc | with_reducible apply below_drw | with_reducible apply below_drew | with_reducible apply below_drewN | with_reducible apply below_plus | with_reducible apply below_set | (simp; done)))); exact hnc; exact hcm)); rintro e w1 ⟨n1, c1, hs1, hB1, rfl, rfl⟩) | (go_at_call 38; apply Calls.mono; (focus (apply l20Frame_any; (focus (repeat (first | with_reducible exact hr | (with_reducible apply Rd.base_at hs1 hB1; simp; done) | with_reducible apply Rd.plus | with_reducible apply Rd.drew | with_reducible apply Rd.drewN | with_reducible apply Rd.drw | with_reducible apply Rd.alloc | with_reducible apply Rd.set))); all_goals omega)); rintro e w1 ⟨x, y, q, hF, rfl, p', hp0, hp1, os, d, rfl⟩))
  refine bodyPost_ret (v := .agg #[.int .i64 _, .int .i64 _, .int .i64 _]) (by simp [results, Try.results16, go_sem] <;> first | exact ⟨rfl, rfl, rfl⟩ | exact rfl) rfl ⟨_, _, _, hF, rfl, up_of_below ?_⟩
  repeat (first | with_reducible exact Below.refl _ _ | with_reducible apply below_alloc | with_reducible apply below_drw | with_reducible apply below_drew | with_reducible apply below_drewN | with_reducible apply below_plus | with_reducible apply below_set | (simp; done))

set_option maxHeartbeats 1000000 in
theorem drawInvertFrame_any (a : Option Addr) (n c : Nat) (w : World) (hb : Bytes w w.heap.size a n) (hnc : n ≤ c) (hcm : c ≤ maxLen) :
    Calls Try.prog 28 #[.slice a n c] w fun e w' => ∃ x y q, FrD x y q ∧ e = .returned (.agg #[.int .i64 x, .int .i64 y, .int .i64 q]) ∧ Up w w' := by
  go_enter Try.func28, Try.ntmps28
  go_wp2_with (first | (go_at_call 39; apply Calls.mono; (focus (apply open_any; (focus (apply Bytes.later hb; repeat (first | with_reducible exact Below.refl _ _ | with_reducible apply below_alloc | with_reducible apply below_drw | with_reducible apply below_drew | with_reducible apply below_drewN | with_reducible apply below_plus | with_reducible apply below_set | (simp; done)))); exact hnc; exact hcm)); rintro e w1 ⟨n1, c1, hs1, hB1, rfl, rfl⟩) | (go_at_call 38; apply Calls.mono; (focus (apply l20Frame_any; (focus (repeat (first | with_reducible exact hr | (with_reducible apply Rd.base_at hs1 hB1; simp; done) | with_reducible apply Rd.plus | with_reducible apply Rd.drew | with_reducible apply Rd.drewN | with_reducible apply Rd.drw | with_reducible apply Rd.alloc | with_reducible apply Rd.set))); all_goals omega)); rintro e w1 ⟨x, y, q, hF, rfl, p', hp0, hp1, os, d, rfl⟩))
  refine bodyPost_ret (v := .agg #[.int .i64 _, .int .i64 _, .int .i64 _]) (by simp [results, Try.results28, go_sem] <;> first | exact ⟨rfl, rfl, rfl⟩ | exact rfl) rfl ⟨_, _, _, hF, rfl, up_of_below ?_⟩
  repeat (first | with_reducible exact Below.refl _ _ | with_reducible apply below_alloc | with_reducible apply below_drw | with_reducible apply below_drew | with_reducible apply below_drewN | with_reducible apply below_plus | with_reducible apply below_set | (simp; done))

set_option maxHeartbeats 1000000 in
theorem drawComposeFrames_any (a : Option Addr) (n c : Nat) (w : World) (hb : Bytes w w.heap.size a n) (hnc : n ≤ c) (hcm : c ≤ maxLen) :
    Calls Try.prog 34 #[.slice a n c] w fun e w' => ∃ x y q x' y' q', FrD x y q ∧ FrD x' y' q' ∧ e = .returned (.tuple #[.agg #[.int .i64 x, .int .i64 y, .int .i64 q], .agg #[.int .i64 x', .int .i64 y', .int .i64 q']]) ∧ Up w w' := by
  go_enter Try.func34, Try.ntmps34
  go_wp2_with (first | (go_at_call 39; apply Calls.mono; (focus (apply open_any; (focus (apply Bytes.later hb; repeat (first | with_reducible exact Below.refl _ _ | with_reducible apply below_alloc | with_reducible apply below_drw | with_reducible apply below_drew | with_reducible apply below_drewN | with_reducible apply below_plus | with_reducible apply below_set | (simp; done)))); exact hnc; exact hcm)); rintro e w1 ⟨n1, c1, hs1, hB1, rfl, rfl⟩) | (go_at_call 38; apply Calls.mono; (focus (apply l20Frame_any; (focus (repeat (first | with_reducible exact hr | (with_reducible apply Rd.base_at hs1 hB1; simp; done) | with_reducible apply Rd.plus | with_reducible apply Rd.drew | with_reducible apply Rd.drewN | with_reducible apply Rd.drw | with_reducible apply Rd.alloc | with_reducible apply Rd.set))); all_goals omega)); rintro e w1 ⟨x, y, q, hF, rfl, p', hp0, hp1, os, d, rfl⟩))
  have hF' := hF
  clear hF
  go_region_with (first | (go_at_call 38; apply Calls.mono; (focus (apply l20Frame_any; (focus (repeat (first | with_reducible exact hr | (with_reducible apply Rd.base_at hs1 hB1; simp; done) | with_reducible apply Rd.plus | with_reducible apply Rd.drew | with_reducible apply Rd.drewN | with_reducible apply Rd.drw | with_reducible apply Rd.alloc | with_reducible apply Rd.set))); all_goals omega)); rintro e w1 ⟨x', y', q', hG, rfl, p'', hp0', hp1', os', d', rfl⟩))
  go_goals
  all_goals
    go_wp2
    refine bodyPost_ret (v := .tuple #[.agg #[.int .i64 _, .int .i64 _, .int .i64 _], .agg #[.int .i64 _, .int .i64 _, .int .i64 _]]) (by simp [results, Try.results34, go_sem] <;> first | exact ⟨⟨rfl, rfl, rfl⟩, rfl, rfl, rfl⟩ | exact rfl) rfl ⟨_, _, _, _, _, _, hF', hG, rfl, up_of_below ?_⟩
    repeat (first | with_reducible exact Below.refl _ _ | with_reducible apply below_alloc | with_reducible apply below_drw | with_reducible apply below_drew | with_reducible apply below_drewN | with_reducible apply below_plus | with_reducible apply below_set | (simp; done))

set_option maxHeartbeats 1000000 in
theorem drawApplyFrame_any (a : Option Addr) (n c : Nat) (w : World) (hb : Bytes w w.heap.size a n) (hnc : n ≤ c) (hcm : c ≤ maxLen) :
    Calls Try.prog 30 #[.slice a n c] w fun e w' => ∃ x y q x' y', FrD x y q ∧ PtD x' y' ∧ e = .returned (.tuple #[.agg #[.int .i64 x, .int .i64 y, .int .i64 q], .agg #[.int .i64 x', .int .i64 y']]) ∧ Up w w' := by
  go_enter Try.func30, Try.ntmps30
  go_wp2_with (first | (go_at_call 39; apply Calls.mono; (focus (apply open_any; (focus (apply Bytes.later hb; repeat (first | with_reducible exact Below.refl _ _ | with_reducible apply below_alloc | with_reducible apply below_drw | with_reducible apply below_drew | with_reducible apply below_drewN | with_reducible apply below_plus | with_reducible apply below_set | (simp; done)))); exact hnc; exact hcm)); rintro e w1 ⟨n1, c1, hs1, hB1, rfl, rfl⟩) | (go_at_call 38; apply Calls.mono; (focus (apply l20Frame_any; (focus (repeat (first | with_reducible exact hr | (with_reducible apply Rd.base_at hs1 hB1; simp; done) | with_reducible apply Rd.plus | with_reducible apply Rd.drew | with_reducible apply Rd.drewN | with_reducible apply Rd.drw | with_reducible apply Rd.alloc | with_reducible apply Rd.set))); all_goals omega)); rintro e w1 ⟨x, y, q, hF, rfl, p', hp0, hp1, os, d, rfl⟩))
  have hF' := hF
  clear hF
  go_region_with (first | (go_at_call 44; apply Calls.mono; (focus (apply l20Point_any; (focus (repeat (first | with_reducible exact hr | (with_reducible apply Rd.base_at hs1 hB1; simp; done) | with_reducible apply Rd.plus | with_reducible apply Rd.drew | with_reducible apply Rd.drewN | with_reducible apply Rd.drw | with_reducible apply Rd.alloc | with_reducible apply Rd.set))); all_goals omega)); rintro e w1 ⟨x', y', hG, rfl, p'', hp0', hp1', os', d', rfl⟩))
  go_goals
  all_goals
    go_wp2
    refine bodyPost_ret (v := .tuple #[.agg #[.int .i64 _, .int .i64 _, .int .i64 _], .agg #[.int .i64 _, .int .i64 _]]) (by simp [results, Try.results30, go_sem] <;> first | exact ⟨⟨rfl, rfl, rfl⟩, rfl, rfl⟩ | exact rfl) rfl ⟨_, _, _, _, _, hF', hG, rfl, up_of_below ?_⟩
    repeat (first | with_reducible exact Below.refl _ _ | with_reducible apply below_alloc | with_reducible apply below_drw | with_reducible apply below_drew | with_reducible apply below_drewN | with_reducible apply below_plus | with_reducible apply below_set | (simp; done))

end Go.Proofs.Ytnflmbmhncndfaa
