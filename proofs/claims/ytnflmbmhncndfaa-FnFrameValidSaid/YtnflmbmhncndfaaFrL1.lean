/-
  The walk of the law on valid frames. No condition.
-/
import Derived.Test.YtnflmbmhncndfaaFrDraw
namespace Go.Proofs.Ytnflmbmhncndfaa
open Go.RowKit

theorem frB_four (x y : Int) : frB x y 4 = false := by
  cases h : frB x y 4
  · rfl
  · have := frB_t.1 h; omega
theorem frB_far (y q : Int) : frB 1000001 y q = false := by
  cases h : frB 1000001 y q
  · rfl
  · have := frB_t.1 h; omega
theorem frB_zero : frB 0 0 0 = true := by decide

set_option maxHeartbeats 1000000 in
theorem lawFrameValid_any (a : Option Addr) (n c : Nat) (w : World) (hb : Bytes w w.heap.size a n) (hnc : n ≤ c) (hcm : c ≤ maxLen) :
    Calls Try.prog 4 #[.slice a n c] w fun e w' => e = .returned (.bool true) ∧ Up w w' := by
  have hm : c ≤ 9223372036854775807 := by unfold maxLen at hcm; omega
  by_cases hn : n ≤ 1048576
  · have f0 := frB_zero
    go_enter Try.func4, Try.ntmps4
    go_wp2_with (first | (go_at_call 16; refine (drawFrameValid_any _ _ _ _ hb hnc hcm).mono ?_; rintro e w1 ⟨x, y, q, hF, rfl, os, d, rfl⟩; have f1 := frB_four x y; have f2 := frB_far y q) | (go_at_call 13; refine (sFrameValid_any _ _ _ _).mono ?_; rintro e w1 ⟨rfl, os, d, rfl⟩) | (go_at_call 15; refine (frameValid_any _ _ _ _).mono ?_; rintro e w1 ⟨rfl, os, d, rfl⟩))
    go_ret
    exact ⟨rfl, up_of_below (by repeat (first | with_reducible exact Below.refl _ _ | with_reducible apply below_alloc | with_reducible apply below_drw | with_reducible apply below_drew | with_reducible apply below_drewN | with_reducible apply below_plus | with_reducible apply below_set | (simp; done)))⟩
  · go_enter Try.func4, Try.ntmps4
    go_wp2
    go_ret
    exact ⟨rfl, up_of_below (Below.refl _ _)⟩

end Go.Proofs.Ytnflmbmhncndfaa
