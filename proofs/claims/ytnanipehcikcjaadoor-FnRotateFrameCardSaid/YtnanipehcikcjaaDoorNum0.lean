/-
  Two small equations of endings.
-/
import Derived.Test.YtnanipehcikcjaaDoorCore
namespace Go.Proofs.YtnanipehcikcjaaDoor
open Go.RowKit
theorem ret_i64 {a b : Int} (h : a = b) : Ending.returned (.int .i64 a) = .returned (.int .i64 b) := by rw [h]
theorem ret_bool {a b : Bool} (h : a = b) : Ending.returned (.bool a) = .returned (.bool b) := by rw [h]
end Go.Proofs.YtnanipehcikcjaaDoor
