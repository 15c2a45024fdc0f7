/-
  Contracts of small functions on numbers: the nearest number in a range. No condition.
-/
import Derived.Test.YtelcaafnjahbkaaCore
namespace Go.Proofs.Ytelcaafnjahbkaa
open Go.RowKit

/-- The number from lo to hi that is nearest to n. -/
def clampF (n lo hi : Int) : Int := max lo (min hi n)
theorem clampF_bd {n lo hi : Int} (h : lo ≤ hi) : lo ≤ clampF n lo hi ∧ clampF n lo hi ≤ hi := by unfold clampF; omega
theorem ret_i64 {a b : Int} (h : a = b) : Ending.returned (.int .i64 a) = .returned (.int .i64 b) := by rw [h]
theorem ret_bool {a b : Bool} (h : a = b) : Ending.returned (.bool a) = .returned (.bool b) := by rw [h]

set_option maxHeartbeats 400000 in
theorem clamp_any (n lo hi : Int) (w : World) :
    Calls Try.prog 40 #[.int .i64 n, .int .i64 lo, .int .i64 hi] w fun e w' => e = .returned (.int .i64 (clampF n lo hi)) ∧ w = w' := by
  by_cases c1 : n < hi
  · by_cases c2 : lo < n <;>
    · go_enter Try.func40, Try.ntmps40
      go_wp2
      go_ret
      exact ⟨ret_i64 (by unfold clampF; omega), rfl⟩
  · by_cases c2 : lo < hi <;>
    · go_enter Try.func40, Try.ntmps40
      go_wp2
      go_ret
      exact ⟨ret_i64 (by unfold clampF; omega), rfl⟩

set_option maxHeartbeats 400000 in
theorem l1Clip_any (n lo hi : Int) (w : World) :
    Calls Try.prog 39 #[.int .i64 n, .int .i64 lo, .int .i64 hi] w fun e w' => e = .returned (.int .i64 (clampF n lo hi)) ∧ w = w' := by
  by_cases c1 : n < hi
  · by_cases c2 : lo < n <;>
    · go_enter Try.func39, Try.ntmps39
      go_wp2
      go_ret
      exact ⟨ret_i64 (by unfold clampF; omega), rfl⟩
  · by_cases c2 : lo < hi <;>
    · go_enter Try.func39, Try.ntmps39
      go_wp2
      go_ret
      exact ⟨ret_i64 (by unfold clampF; omega), rfl⟩

theorem mul_bd {a b A B : Int} (h0 : 0 ≤ a) (h1 : a ≤ A) (h2 : -B ≤ b) (h3 : b ≤ B) : -(A * B) ≤ a * b ∧ a * b ≤ A * B := by
  have hB : 0 ≤ B := by omega
  have e1 : a * b ≤ a * B := Int.mul_le_mul_of_nonneg_left h3 h0
  have e2 : a * B ≤ A * B := Int.mul_le_mul_of_nonneg_right h1 hB
  have e3 : a * (-B) ≤ a * b := Int.mul_le_mul_of_nonneg_left h2 h0
  rw [Int.mul_neg] at e3
  omega

end Go.Proofs.Ytelcaafnjahbkaa
