/-
  Repeated frames: plain laws; absolute values. Conditions: those that each theorem states.
-/
import Derived.Test.YtnflmbmhncndfaaFrIv
import Derived.Test.YtnflmbmhncndfaaFr4
import Derived.Deep.RegionHeld3
namespace Go.Proofs.Ytnflmbmhncndfaa
open Go.RowKit

/-! ### plain -/
def absF (n : Int) : Int := max n (-n)
theorem rep_val {x y q n : Int} (h : frB x y q = true) (h0 : 0 ≤ n) (h1 : n ≤ 100) : repX x y q n = rX x y q n ∧ repY x y q n = rY x y q n ∧ repQ x y q n = rQ x y q n := by
  have hB : repB x y q n = true := by unfold repB; rw [h, inB_t.2 ⟨h0, h1⟩]; rfl
  unfold repX repY repQ
  rw [if_pos hB, if_pos hB, if_pos hB]
  exact ⟨rfl, rfl, rfl⟩
theorem rep_not {x y q n : Int} (h : repB x y q n = false) : repX x y q n = 0 ∧ repY x y q n = 0 ∧ repQ x y q n = 0 := by
  unfold repX repY repQ
  rw [h]
  exact ⟨rfl, rfl, rfl⟩
theorem r_one {x y q : Int} (h : frB x y q = true) : rX x y q 1 = x ∧ rY x y q 1 = y ∧ rQ x y q 1 = q := by
  have h6 := (frB_t.1 h).2.2
  obtain ⟨e1, e2, e3⟩ := cm_of (x := 0) (y := 0) (q := 0) (by decide) h (X := x) (Y := y) (Q := q) (by rw [qx_zero]; omega) (by rw [qy_zero]; omega) (by omega) h
  exact ⟨(rX_succ (n := 0) (by omega)).trans e1, (rY_succ (n := 0) (by omega)).trans e2, (rQ_succ (n := 0) (by omega)).trans e3⟩
theorem r_two {x y q : Int} (h : frB x y q = true) : rX x y q 2 = cmX x y q x y q ∧ rY x y q 2 = cmY x y q x y q ∧ rQ x y q 2 = cmQ x y q x y q := by
  obtain ⟨e1, e2, e3⟩ := r_one h
  have a := rX_succ (x := x) (y := y) (q := q) (n := 1) (by omega)
  have b := rY_succ (x := x) (y := y) (q := q) (n := 1) (by omega)
  have c := rQ_succ (x := x) (y := y) (q := q) (n := 1) (by omega)
  rw [e1, e2, e3] at a b c
  exact ⟨a, b, c⟩
theorem r_step {x y q n X Y Q X' Y' Q' : Int} (h0 : 0 ≤ n) (e : rX x y q n = X ∧ rY x y q n = Y ∧ rQ x y q n = Q) (h : frB x y q = true) (hv : frB X Y Q = true) (h1 : X + qx x y Q = X') (h2 : Y + qy x y Q = Y') (h3 : (Q + q) % 4 = Q') (hv' : frB X' Y' Q' = true) :
    rX x y q (n + 1) = X' ∧ rY x y q (n + 1) = Y' ∧ rQ x y q (n + 1) = Q' := by
  obtain ⟨e1, e2, e3⟩ := e
  obtain ⟨c1, c2, c3⟩ := cm_of hv h h1 h2 h3 hv'
  refine ⟨?_, ?_, ?_⟩
  · rw [rX_succ h0, e1, e2, e3, c1]
  · rw [rY_succ h0, e1, e2, e3, c2]
  · rw [rQ_succ h0, e1, e2, e3, c3]
theorem fr_small {x y q : Int} (h1 : -5000 ≤ x ∧ x ≤ 5000) (h2 : -5000 ≤ y ∧ y ≤ 5000) (h3 : 0 ≤ q ∧ q ≤ 3) : frB x y q = true := frB_t.2 (by omega)
theorem r_four {x y q : Int} (h : frB x y q = true) (hx : absF x < 1000) (hy : absF y < 1000) (hq : q % 2 ≠ 0) : rX x y q 4 = 0 ∧ rY x y q 4 = 0 ∧ rQ x y q 4 = 0 := by
  unfold absF at hx hy
  obtain ⟨_, _, h5, h6⟩ := frB_t.1 h
  have h1 := r_one h
  rcases q_cases h5 h6 with rfl | rfl | rfl | rfl
  · omega
  · have s2 := r_step (X' := x - y) (Y' := y + x) (Q' := 2) (by omega) h1 h h (by simp [qx, qt]; omega) (by simp [qy, qt]) (by decide) (fr_small (by omega) (by omega) (by omega))
    have s3 := r_step (X' := -y) (Y' := x) (Q' := 3) (by omega) s2 h (fr_small (by omega) (by omega) (by omega)) (by simp [qx, qt]; omega) (by simp [qy, qt]; omega) (by decide) (fr_small (by omega) (by omega) (by omega))
    exact r_step (X' := 0) (Y' := 0) (Q' := 0) (by omega) s3 h (fr_small (by omega) (by omega) (by omega)) (by simp [qx, qt]; omega) (by simp [qy, qt]; omega) (by decide) (by decide)
  · omega
  · have s2 := r_step (X' := x + y) (Y' := y - x) (Q' := 2) (by omega) h1 h h (by simp [qx, qt]) (by simp [qy, qt]; omega) (by decide) (fr_small (by omega) (by omega) (by omega))
    have s3 := r_step (X' := y) (Y' := -x) (Q' := 1) (by omega) s2 h (fr_small (by omega) (by omega) (by omega)) (by simp [qx, qt]; omega) (by simp [qy, qt]; omega) (by decide) (fr_small (by omega) (by omega) (by omega))
    exact r_step (X' := 0) (Y' := 0) (Q' := 0) (by omega) s3 h (fr_small (by omega) (by omega) (by omega)) (by simp [qx, qt]; omega) (by simp [qy, qt]; omega) (by decide) (by decide)

set_option maxHeartbeats 400000 in
theorem abs_any (n : Int) (w : World) (h1 : -1000000000 ≤ n) (h2 : n ≤ 1000000000) :
    Calls Try.prog 33 #[.int .i64 n] w fun e w' => e = .returned (.int .i64 (absF n)) ∧ w = w' := by
  rcases Int.lt_trichotomy n 0 with c | c | c
  · go_enter Try.func33, Try.ntmps33
    go_wp2
    go_ret
    exact ⟨ret_i64 (by unfold absF; omega), rfl⟩
  · subst c
    go_enter Try.func33, Try.ntmps33
    go_wp2
    go_ret
    exact ⟨ret_i64 (by unfold absF; omega), rfl⟩
  · go_enter Try.func33, Try.ntmps33
    go_wp2
    go_ret
    exact ⟨ret_i64 (by unfold absF; omega), rfl⟩

end Go.Proofs.Ytnflmbmhncndfaa
