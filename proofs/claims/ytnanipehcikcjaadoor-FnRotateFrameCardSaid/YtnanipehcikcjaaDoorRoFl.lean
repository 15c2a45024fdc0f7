/-
  The contract of the program's quotient that is rounded down. Conditions: a positive divisor, numbers in range.
-/
import Derived.Test.YtnanipehcikcjaaDoorNum0
import Derived.Lib.Hide
namespace Go.Proofs.YtnanipehcikcjaaDoor
open Go.RowKit

theorem floor_spec (a b : Int) (h : 1 ≤ b) : (if a.tmod b < 0 then a.tdiv b - 1 else a.tdiv b) = a / b := by
  rw [Int.tdiv_eq_ediv, Int.tmod_eq_emod]
  have h1 := Int.emod_nonneg a (show b ≠ 0 by omega)
  have h2 := Int.emod_lt_of_pos a (show 0 < b by omega)
  have hs : b.sign = 1 := Int.sign_eq_one_of_pos (by omega)
  have hn : (b.natAbs : Int) = b := Int.natAbs_of_nonneg (by omega)
  by_cases hc : 0 ≤ a ∨ b ∣ a
  · rw [if_pos hc, if_pos hc, if_neg (by omega)]; omega
  · rw [if_neg hc, if_neg hc, hs, hn, if_pos (by omega)]; omega
theorem tdiv_bd (a b : Int) (_h : 1 ≤ b) : -(a.natAbs : Int) ≤ a.tdiv b ∧ a.tdiv b ≤ a.natAbs := by
  have h2 : (a.tdiv b).natAbs ≤ a.natAbs := by rw [Int.natAbs_tdiv]; exact Nat.div_le_self _ _
  omega

set_option maxHeartbeats 400000 in
theorem floor_any (a b : Int) (w : World) (h1 : 1 ≤ b) (h2 : b ≤ 1000000) (h3 : -1000000000000000 ≤ a) (h4 : a ≤ 1000000000000000) :
    Calls Tryd.prog 28 #[.int .i64 a, .int .i64 b] w fun e w' => e = .returned (.int .i64 (a / b)) ∧ w = w' := by
  have k := floor_spec a b h1
  have q := IntWalk.i64_quo' a b (by omega)
  have kb := tdiv_bd a b h1
  have hz : (b == 0) = false := by simp; omega
  by_cases c : a.tmod b < 0
  · have K := Lib.hid (k.trans rfl)
    clear k
    go_enter Tryd.func28, Tryd.ntmps28
    go_wp2
    go_ret
    exact ⟨ret_i64 (by have := K.out; omega), rfl⟩
  · have K := Lib.hid (k.trans rfl)
    clear k
    go_enter Tryd.func28, Tryd.ntmps28
    go_wp2
    go_ret
    exact ⟨ret_i64 (by have := K.out; omega), rfl⟩


end Go.Proofs.YtnanipehcikcjaaDoor
