/-
  Contracts of the functions on frames (program and reference): what each returns, in plain numbers. Conditions: those that each theorem states.
-/
import Derived.Test.YtnflmbmhncndfaaOdd
namespace Go.Proofs.Ytnflmbmhncndfaa
open Go.RowKit

/-! ### plain -/
/-- k quarter turns. -/
def qt : Nat → Int × Int → Int × Int
  | 0, p => p
  | k + 1, p => (-(qt k p).2, (qt k p).1)
theorem qt_bd (M : Int) (p : Int × Int) (h1 : -M ≤ p.1) (h2 : p.1 ≤ M) (h3 : -M ≤ p.2) (h4 : p.2 ≤ M) (k : Nat) : (-M ≤ (qt k p).1 ∧ (qt k p).1 ≤ M) ∧ -M ≤ (qt k p).2 ∧ (qt k p).2 ≤ M := by
  induction k with
  | zero => exact ⟨⟨h1, h2⟩, h3, h4⟩
  | succ k ih => simp only [qt]; omega
def frB (x y q : Int) : Bool := inB x (-1000000) 1000000 && (inB y (-1000000) 1000000 && inB q 0 3)
theorem frB_t {x y q : Int} : frB x y q = true ↔ (-1000000 ≤ x ∧ x ≤ 1000000) ∧ (-1000000 ≤ y ∧ y ≤ 1000000) ∧ 0 ≤ q ∧ q ≤ 3 := by simp [frB, inB_t]
def ptB (x y : Int) : Bool := inB x (-10000) 10000 && inB y (-10000) 10000
theorem ptB_t {x y : Int} : ptB x y = true ↔ (-10000 ≤ x ∧ x ≤ 10000) ∧ -10000 ≤ y ∧ y ≤ 10000 := by simp [ptB, inB_t]
abbrev Vf (x y q : Int) : Value := .agg #[.int .i64 x, .int .i64 y, .int .i64 q]
abbrev Vp (x y : Int) : Value := .agg #[.int .i64 x, .int .i64 y]

/-! ### the walks -/
set_option maxHeartbeats 400000 in
theorem frameValid_any (x y q : Int) (w : World) :
    Calls Try.prog 15 #[.agg #[.int .i64 x, .int .i64 y, .int .i64 q]] w fun e w' => e = .returned (.bool (frB x y q)) ∧ Up w w' := by
  have key : ∀ b, frB x y q = b → Ending.returned (.bool b) = .returned (.bool (frB x y q)) := by intro b h; rw [h]
  cases h1 : inB x (-1000000) 1000000 <;> cases h2 : inB y (-1000000) 1000000 <;> cases h3 : inB q 0 3 <;>
  · have KK := key _ (by simp only [frB, h1, h2, h3]; rfl)
    clear key
    go_enter Try.func15, Try.ntmps15
    go_wp2_with (go_at_call 37; refine (within_any _ _ _ _).mono ?_; rintro e w' ⟨rfl, rfl⟩)
    go_ret
    exact ⟨KK, up_of_below (by repeat (first | exact Below.refl _ _ | refine below_alloc ?_ _))⟩

set_option maxHeartbeats 400000 in
theorem sFrameValid_any (x y q : Int) (w : World) :
    Calls Try.prog 13 #[.agg #[.int .i64 x, .int .i64 y, .int .i64 q]] w fun e w' => e = .returned (.bool (frB x y q)) ∧ Up w w' := by
  have key : ∀ b, frB x y q = b → Ending.returned (.bool b) = .returned (.bool (frB x y q)) := by intro b h; rw [h]
  cases h1 : inB x (-1000000) 1000000 <;> cases h2 : inB y (-1000000) 1000000 <;> cases h3 : inB q 0 3 <;>
  · have KK := key _ (by simp only [frB, h1, h2, h3]; rfl)
    clear key
    go_enter Try.func13, Try.ntmps13
    go_wp2_with (go_at_call 36; refine (l1In_any _ _ _ _).mono ?_; rintro e w' ⟨rfl, rfl⟩)
    go_ret
    exact ⟨KK, up_of_below (by repeat (first | exact Below.refl _ _ | refine below_alloc ?_ _))⟩

set_option maxHeartbeats 400000 in
theorem toFrame_any (x y q : Int) (w : World) :
    Calls Try.prog 14 #[.agg #[.int .i64 x, .int .i64 y, .int .i64 q]] w fun e w' => e = .returned (.agg #[.int .i64 x, .int .i64 y, .int .i64 q]) ∧ Up w w' := by
  go_enter Try.func14, Try.ntmps14
  go_wp2
  refine bodyPost_ret (v := .agg #[.int .i64 x, .int .i64 y, .int .i64 q]) (by simp [results, Try.results14, go_sem]) rfl ⟨rfl, up_of_below ?_⟩
  repeat (first | exact Below.refl _ _ | refine below_alloc ?_ _ | refine below_set ?_ (by simp) _)

set_option maxHeartbeats 400000 in
theorem exactFrameValid_any (x y q : Int) (w : World) :
    Calls Try.prog 3 #[.agg #[.int .i64 x, .int .i64 y, .int .i64 q]] w fun e w' => e = .returned (.bool true) ∧ Up w w' := by
  go_enter Try.func3, Try.ntmps3
  go_wp2_with (first | (go_at_call 14; refine (toFrame_any _ _ _ _).mono ?_; rintro e w1 ⟨rfl, os, d, rfl⟩) | (go_at_call 13; refine (sFrameValid_any _ _ _ _).mono ?_; rintro e w1 ⟨rfl, os, d, rfl⟩) | (go_at_call 15; refine (frameValid_any _ _ _ _).mono ?_; rintro e w1 ⟨rfl, os, d, rfl⟩))
  go_ret
  refine ⟨rfl, up_of_below ?_⟩
  repeat (first | exact Below.refl _ _ | refine below_alloc ?_ _ | refine below_set ?_ (by simp) _ | refine below_plus ?_ _ _)

end Go.Proofs.Ytnflmbmhncndfaa
