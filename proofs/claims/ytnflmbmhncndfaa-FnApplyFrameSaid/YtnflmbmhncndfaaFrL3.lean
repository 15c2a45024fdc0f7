/-
  The walk of the law on applied frames. No condition.
-/
import Derived.Test.YtnflmbmhncndfaaFrDraw
import Derived.Test.YtnflmbmhncndfaaFrIv
import Derived.Deep.RegionHeld3
namespace Go.Proofs.Ytnflmbmhncndfaa
open Go.RowKit

theorem ap_of {x y q px py : Int} (h : frB x y q = true) (h' : ptB px py = true) : apX x y q px py = x + qx px py q ∧ apY x y q px py = y + qy px py q := by
  have hB : apB x y q px py = true := by unfold apB; rw [h, h']; rfl
  unfold apX apY
  rw [if_pos hB, if_pos hB]
  exact ⟨rfl, rfl⟩
theorem ap_not {x y q px py : Int} (h : apB x y q px py = false) : apX x y q px py = 0 ∧ apY x y q px py = 0 := by
  unfold apX apY
  rw [h]
  exact ⟨rfl, rfl⟩
theorem sq_bd {a M : Int} (h1 : -M ≤ a) (h2 : a ≤ M) : 0 ≤ a * a ∧ a * a ≤ M * M := by
  rcases Int.le_total 0 a with h | h
  · exact ⟨Int.mul_nonneg h h, Int.mul_le_mul h2 h2 h (by omega)⟩
  · have e : a * a = (-a) * (-a) := by rw [Int.neg_mul_neg]
    rw [e]
    exact ⟨Int.mul_nonneg (by omega) (by omega), Int.mul_le_mul (by omega) (by omega) (by omega) (by omega)⟩
theorem ap_sq {q px py : Int} (h1 : 0 ≤ q) (h2 : q ≤ 3) : qx px py q * qx px py q + qy px py q * qy px py q = px * px + py * py := by
  rcases q_cases h1 h2 with rfl | rfl | rfl | rfl
  · rfl
  · show -py * -py + px * px = _
    rw [Int.neg_mul_neg]; omega
  · show -px * -px + -py * -py = _
    rw [Int.neg_mul_neg, Int.neg_mul_neg]
  · show - -py * - -py + -px * -px = _
    rw [Int.neg_neg, Int.neg_mul_neg]; omega
theorem ap_zero {x y q : Int} (h : frB x y q = true) : apX x y q 0 0 = x ∧ apY x y q 0 0 = y := by
  obtain ⟨⟨h1, h2⟩, ⟨h3, h4⟩, h5, h6⟩ := frB_t.1 h
  obtain ⟨e1, e2⟩ := ap_of (px := 0) (py := 0) h (by decide)
  rw [e1, e2]
  rcases q_cases h5 h6 with rfl | rfl | rfl | rfl <;> exact ⟨by simp [qx, qt], by simp [qy, qt]⟩

set_option maxHeartbeats 4000000 in
theorem lawApplyFrame_any (a : Option Addr) (n c : Nat) (w : World) (hb : Bytes w w.heap.size a n) (hnc : n ≤ c) (hcm : c ≤ maxLen) :
    Calls Try.prog 10 #[.slice a n c] w fun e w' => e = .returned (.bool true) ∧ Up w w' := by
  have hm : c ≤ 9223372036854775807 := by unfold maxLen at hcm; omega
  by_cases hn : n ≤ 1048576
  · go_enter Try.func10, Try.ntmps10
    go_wp2_with (first | (go_at_call 30; refine (drawApplyFrame_any _ _ _ _ hb hnc hcm).mono ?_; rintro e w1 ⟨x, y, q, px, py, hF, hP, rfl, os0, d0, rfl⟩; cases hv : frB x y q <;> cases hp : ptB px py) | (go_at_call 24; refine (apply_any _ _ _ _ _ _).mono ?_; rintro e w1 ⟨rfl, os2, d2, rfl⟩) | (go_at_call 22; refine (sApply_any _ _ _ _ _ _).mono ?_; rintro e w1 ⟨rfl, os, d, rfl⟩) | (go_at_call 13; refine (sFrameValid_any _ _ _ _).mono ?_; rintro e w1 ⟨rfl, os, d, rfl⟩) | (go_at_call 31; refine (sPointValid_any _ _ _).mono ?_; rintro e w1 ⟨rfl, os, d, rfl⟩) | (go_at_call 29; refine (alive_any _).mono ?_; rintro e w' ⟨rfl, rfl⟩))
    · obtain ⟨iX, iY⟩ := ap_not (x := x) (y := y) (q := q) (px := px) (py := py) (by unfold apB; rw [hv, hp]; rfl)
      go_region_held3 (fun W => W.cell? ⟨w.heap.size + os0.size, 0, none⟩ = some (.int .i64 x) ∧ W.cell? ⟨w.heap.size + os0.size, 1, none⟩ = some (.int .i64 y) ∧ W.cell? ⟨w.heap.size + os0.size, 2, none⟩ = some (.int .i64 q) ∧ W.cell? ⟨w.heap.size + os0.size + 1, 0, none⟩ = some (.int .i64 px) ∧ W.cell? ⟨w.heap.size + os0.size + 1, 1, none⟩ = some (.int .i64 py) ∧ W.cell? ⟨w.heap.size + os0.size + 1 + 1 + os2.size, 0, none⟩ = some (.int .i64 0) ∧ W.cell? ⟨w.heap.size + os0.size + 1 + 1 + os2.size, 1, none⟩ = some (.int .i64 0)) (simp [go_sem, iX, iY]) (first | (go_at_call 30; refine (drawApplyFrame_any _ _ _ _ hb hnc hcm).mono ?_; rintro e w1 ⟨x, y, q, px, py, hF, hP, rfl, os0, d0, rfl⟩; cases hv : frB x y q <;> cases hp : ptB px py) | (go_at_call 24; refine (apply_any _ _ _ _ _ _).mono ?_; rintro e w1 ⟨rfl, os2, d2, rfl⟩) | (go_at_call 22; refine (sApply_any _ _ _ _ _ _).mono ?_; rintro e w1 ⟨rfl, os, d, rfl⟩) | (go_at_call 13; refine (sFrameValid_any _ _ _ _).mono ?_; rintro e w1 ⟨rfl, os, d, rfl⟩) | (go_at_call 31; refine (sPointValid_any _ _ _).mono ?_; rintro e w1 ⟨rfl, os, d, rfl⟩) | (go_at_call 29; refine (alive_any _).mono ?_; rintro e w' ⟨rfl, rfl⟩))
      all_goals
        go_wp2_with (first | (go_at_call 30; refine (drawApplyFrame_any _ _ _ _ hb hnc hcm).mono ?_; rintro e w1 ⟨x, y, q, px, py, hF, hP, rfl, os0, d0, rfl⟩; cases hv : frB x y q <;> cases hp : ptB px py) | (go_at_call 24; refine (apply_any _ _ _ _ _ _).mono ?_; rintro e w1 ⟨rfl, os2, d2, rfl⟩) | (go_at_call 22; refine (sApply_any _ _ _ _ _ _).mono ?_; rintro e w1 ⟨rfl, os, d, rfl⟩) | (go_at_call 13; refine (sFrameValid_any _ _ _ _).mono ?_; rintro e w1 ⟨rfl, os, d, rfl⟩) | (go_at_call 31; refine (sPointValid_any _ _ _).mono ?_; rintro e w1 ⟨rfl, os, d, rfl⟩) | (go_at_call 29; refine (alive_any _).mono ?_; rintro e w' ⟨rfl, rfl⟩))
        go_ret
        exact ⟨rfl, up_of_below (by repeat (first | with_reducible exact Below.refl _ _ | with_reducible apply below_alloc | with_reducible apply below_drw | with_reducible apply below_drew | with_reducible apply below_drewN | with_reducible apply below_plus | with_reducible apply below_set | (simp; done)))⟩
    · obtain ⟨iX, iY⟩ := ap_not (x := x) (y := y) (q := q) (px := px) (py := py) (by unfold apB; rw [hv, hp]; rfl)
      go_region_held3 (fun W => W.cell? ⟨w.heap.size + os0.size, 0, none⟩ = some (.int .i64 x) ∧ W.cell? ⟨w.heap.size + os0.size, 1, none⟩ = some (.int .i64 y) ∧ W.cell? ⟨w.heap.size + os0.size, 2, none⟩ = some (.int .i64 q) ∧ W.cell? ⟨w.heap.size + os0.size + 1, 0, none⟩ = some (.int .i64 px) ∧ W.cell? ⟨w.heap.size + os0.size + 1, 1, none⟩ = some (.int .i64 py) ∧ W.cell? ⟨w.heap.size + os0.size + 1 + 1 + os2.size, 0, none⟩ = some (.int .i64 0) ∧ W.cell? ⟨w.heap.size + os0.size + 1 + 1 + os2.size, 1, none⟩ = some (.int .i64 0)) (simp [go_sem, iX, iY]) (first | (go_at_call 30; refine (drawApplyFrame_any _ _ _ _ hb hnc hcm).mono ?_; rintro e w1 ⟨x, y, q, px, py, hF, hP, rfl, os0, d0, rfl⟩; cases hv : frB x y q <;> cases hp : ptB px py) | (go_at_call 24; refine (apply_any _ _ _ _ _ _).mono ?_; rintro e w1 ⟨rfl, os2, d2, rfl⟩) | (go_at_call 22; refine (sApply_any _ _ _ _ _ _).mono ?_; rintro e w1 ⟨rfl, os, d, rfl⟩) | (go_at_call 13; refine (sFrameValid_any _ _ _ _).mono ?_; rintro e w1 ⟨rfl, os, d, rfl⟩) | (go_at_call 31; refine (sPointValid_any _ _ _).mono ?_; rintro e w1 ⟨rfl, os, d, rfl⟩) | (go_at_call 29; refine (alive_any _).mono ?_; rintro e w' ⟨rfl, rfl⟩))
      all_goals
        go_wp2_with (first | (go_at_call 30; refine (drawApplyFrame_any _ _ _ _ hb hnc hcm).mono ?_; rintro e w1 ⟨x, y, q, px, py, hF, hP, rfl, os0, d0, rfl⟩; cases hv : frB x y q <;> cases hp : ptB px py) | (go_at_call 24; refine (apply_any _ _ _ _ _ _).mono ?_; rintro e w1 ⟨rfl, os2, d2, rfl⟩) | (go_at_call 22; refine (sApply_any _ _ _ _ _ _).mono ?_; rintro e w1 ⟨rfl, os, d, rfl⟩) | (go_at_call 13; refine (sFrameValid_any _ _ _ _).mono ?_; rintro e w1 ⟨rfl, os, d, rfl⟩) | (go_at_call 31; refine (sPointValid_any _ _ _).mono ?_; rintro e w1 ⟨rfl, os, d, rfl⟩) | (go_at_call 29; refine (alive_any _).mono ?_; rintro e w' ⟨rfl, rfl⟩))
        go_ret
        exact ⟨rfl, up_of_below (by repeat (first | with_reducible exact Below.refl _ _ | with_reducible apply below_alloc | with_reducible apply below_drw | with_reducible apply below_drew | with_reducible apply below_drewN | with_reducible apply below_plus | with_reducible apply below_set | (simp; done)))⟩
    · obtain ⟨iX, iY⟩ := ap_not (x := x) (y := y) (q := q) (px := px) (py := py) (by unfold apB; rw [hv, hp]; rfl)
      go_region_held3 (fun W => W.cell? ⟨w.heap.size + os0.size, 0, none⟩ = some (.int .i64 x) ∧ W.cell? ⟨w.heap.size + os0.size, 1, none⟩ = some (.int .i64 y) ∧ W.cell? ⟨w.heap.size + os0.size, 2, none⟩ = some (.int .i64 q) ∧ W.cell? ⟨w.heap.size + os0.size + 1, 0, none⟩ = some (.int .i64 px) ∧ W.cell? ⟨w.heap.size + os0.size + 1, 1, none⟩ = some (.int .i64 py) ∧ W.cell? ⟨w.heap.size + os0.size + 1 + 1 + os2.size, 0, none⟩ = some (.int .i64 0) ∧ W.cell? ⟨w.heap.size + os0.size + 1 + 1 + os2.size, 1, none⟩ = some (.int .i64 0)) (simp [go_sem, iX, iY]) (first | (go_at_call 30; refine (drawApplyFrame_any _ _ _ _ hb hnc hcm).mono ?_; rintro e w1 ⟨x, y, q, px, py, hF, hP, rfl, os0, d0, rfl⟩; cases hv : frB x y q <;> cases hp : ptB px py) | (go_at_call 24; refine (apply_any _ _ _ _ _ _).mono ?_; rintro e w1 ⟨rfl, os2, d2, rfl⟩) | (go_at_call 22; refine (sApply_any _ _ _ _ _ _).mono ?_; rintro e w1 ⟨rfl, os, d, rfl⟩) | (go_at_call 13; refine (sFrameValid_any _ _ _ _).mono ?_; rintro e w1 ⟨rfl, os, d, rfl⟩) | (go_at_call 31; refine (sPointValid_any _ _ _).mono ?_; rintro e w1 ⟨rfl, os, d, rfl⟩) | (go_at_call 29; refine (alive_any _).mono ?_; rintro e w' ⟨rfl, rfl⟩))
      all_goals
        go_wp2_with (first | (go_at_call 30; refine (drawApplyFrame_any _ _ _ _ hb hnc hcm).mono ?_; rintro e w1 ⟨x, y, q, px, py, hF, hP, rfl, os0, d0, rfl⟩; cases hv : frB x y q <;> cases hp : ptB px py) | (go_at_call 24; refine (apply_any _ _ _ _ _ _).mono ?_; rintro e w1 ⟨rfl, os2, d2, rfl⟩) | (go_at_call 22; refine (sApply_any _ _ _ _ _ _).mono ?_; rintro e w1 ⟨rfl, os, d, rfl⟩) | (go_at_call 13; refine (sFrameValid_any _ _ _ _).mono ?_; rintro e w1 ⟨rfl, os, d, rfl⟩) | (go_at_call 31; refine (sPointValid_any _ _ _).mono ?_; rintro e w1 ⟨rfl, os, d, rfl⟩) | (go_at_call 29; refine (alive_any _).mono ?_; rintro e w' ⟨rfl, rfl⟩))
        go_ret
        exact ⟨rfl, up_of_below (by repeat (first | with_reducible exact Below.refl _ _ | with_reducible apply below_alloc | with_reducible apply below_drw | with_reducible apply below_drew | with_reducible apply below_drewN | with_reducible apply below_plus | with_reducible apply below_set | (simp; done)))⟩
    · obtain ⟨zX, zY⟩ := ap_zero hv
      obtain ⟨eX, eY⟩ := ap_of hv hp
      obtain ⟨⟨h1, h2⟩, ⟨h3, h4⟩, h5, h6⟩ := frB_t.1 hv
      obtain ⟨⟨k1, k2⟩, k3, k4⟩ := ptB_t.1 hp
      obtain ⟨⟨b1, b2⟩, b3, b4⟩ := qxy_bd k1 k2 k3 k4 q
      have gX : apX x y q px py - x = qx px py q := by rw [eX]; omega
      have gY : apY x y q px py - y = qy px py q := by rw [eY]; omega
      have gXl : -1010000 ≤ apX x y q px py ∧ apX x y q px py ≤ 1010000 := by rw [eX]; omega
      have gYl : -1010000 ≤ apY x y q px py ∧ apY x y q px py ≤ 1010000 := by rw [eY]; omega
      obtain ⟨gX1, gX2⟩ := gXl
      obtain ⟨gY1, gY2⟩ := gYl
      obtain ⟨s1, s2⟩ := sq_bd b1 b2
      obtain ⟨s3, s4⟩ := sq_bd b3 b4
      obtain ⟨s5, s6⟩ := sq_bd k1 k2
      obtain ⟨s7, s8⟩ := sq_bd k3 k4
      have hs : (qx px py q * qx px py q + qy px py q * qy px py q == px * px + py * py) = true := by rw [beq_iff_eq]; exact ap_sq h5 h6
      clear eX eY
      go_region_held3 (fun W => W.cell? ⟨w.heap.size + os0.size, 0, none⟩ = some (.int .i64 x) ∧ W.cell? ⟨w.heap.size + os0.size, 1, none⟩ = some (.int .i64 y) ∧ W.cell? ⟨w.heap.size + os0.size, 2, none⟩ = some (.int .i64 q) ∧ W.cell? ⟨w.heap.size + os0.size + 1, 0, none⟩ = some (.int .i64 px) ∧ W.cell? ⟨w.heap.size + os0.size + 1, 1, none⟩ = some (.int .i64 py) ∧ W.cell? ⟨w.heap.size + os0.size + 1 + 1 + os2.size, 0, none⟩ = some (.int .i64 (apX x y q px py)) ∧ W.cell? ⟨w.heap.size + os0.size + 1 + 1 + os2.size, 1, none⟩ = some (.int .i64 (apY x y q px py))) (simp [go_sem]) (first | (go_at_call 30; refine (drawApplyFrame_any _ _ _ _ hb hnc hcm).mono ?_; rintro e w1 ⟨x, y, q, px, py, hF, hP, rfl, os0, d0, rfl⟩; cases hv : frB x y q <;> cases hp : ptB px py) | (go_at_call 24; refine (apply_any _ _ _ _ _ _).mono ?_; rintro e w1 ⟨rfl, os2, d2, rfl⟩) | (go_at_call 22; refine (sApply_any _ _ _ _ _ _).mono ?_; rintro e w1 ⟨rfl, os, d, rfl⟩) | (go_at_call 13; refine (sFrameValid_any _ _ _ _).mono ?_; rintro e w1 ⟨rfl, os, d, rfl⟩) | (go_at_call 31; refine (sPointValid_any _ _ _).mono ?_; rintro e w1 ⟨rfl, os, d, rfl⟩) | (go_at_call 29; refine (alive_any _).mono ?_; rintro e w' ⟨rfl, rfl⟩))
      all_goals
        go_wp2_with (first | (go_at_call 30; refine (drawApplyFrame_any _ _ _ _ hb hnc hcm).mono ?_; rintro e w1 ⟨x, y, q, px, py, hF, hP, rfl, os0, d0, rfl⟩; cases hv : frB x y q <;> cases hp : ptB px py) | (go_at_call 24; refine (apply_any _ _ _ _ _ _).mono ?_; rintro e w1 ⟨rfl, os2, d2, rfl⟩) | (go_at_call 22; refine (sApply_any _ _ _ _ _ _).mono ?_; rintro e w1 ⟨rfl, os, d, rfl⟩) | (go_at_call 13; refine (sFrameValid_any _ _ _ _).mono ?_; rintro e w1 ⟨rfl, os, d, rfl⟩) | (go_at_call 31; refine (sPointValid_any _ _ _).mono ?_; rintro e w1 ⟨rfl, os, d, rfl⟩) | (go_at_call 29; refine (alive_any _).mono ?_; rintro e w' ⟨rfl, rfl⟩))
        go_ret
        exact ⟨rfl, up_of_below (by repeat (first | with_reducible exact Below.refl _ _ | with_reducible apply below_alloc | with_reducible apply below_drw | with_reducible apply below_drew | with_reducible apply below_drewN | with_reducible apply below_plus | with_reducible apply below_set | (simp; done)))⟩
  · go_enter Try.func10, Try.ntmps10
    go_wp2
    go_ret
    exact ⟨rfl, up_of_below (Below.refl _ _)⟩

end Go.Proofs.Ytnflmbmhncndfaa
