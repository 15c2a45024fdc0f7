/-
  The contract of the absolute value. Conditions: a number in range.
-/
import Derived.Test.YtelcaafnjahbkaaCore
import Derived.Lib.Hide
namespace Go.Proofs.Ytelcaafnjahbkaa
open Go.RowKit

/-- The absolute value. -/
def absF (n : Int) : Int := max n (-n)
theorem absF_nat (n : Int) : absF n = (n.natAbs : Int) := by unfold absF; omega
theorem ret_abs {a b : Int} (h : a = b) : Ending.returned (.int .i64 a) = .returned (.int .i64 b) := by rw [h]

set_option maxHeartbeats 400000 in
theorem abs_any (n : Int) (w : World) (h1 : -1000000000000 ≤ n) (h2 : n ≤ 1000000000000) :
    Calls Try.prog 27 #[.int .i64 n] w fun e w' => e = .returned (.int .i64 (absF n)) ∧ w = w' := by
  rcases Int.lt_trichotomy n 0 with c | c | c
  · go_enter Try.func27, Try.ntmps27
    go_wp2
    go_ret
    exact ⟨ret_abs (by unfold absF; omega), rfl⟩
  · subst c
    go_enter Try.func27, Try.ntmps27
    go_wp2
    go_ret
    exact ⟨ret_abs (by unfold absF; omega), rfl⟩
  · go_enter Try.func27, Try.ntmps27
    go_wp2
    go_ret
    exact ⟨ret_abs (by unfold absF; omega), rfl⟩

end Go.Proofs.Ytelcaafnjahbkaa
