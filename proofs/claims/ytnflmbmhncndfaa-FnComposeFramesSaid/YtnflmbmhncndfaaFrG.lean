/-
  Plain: frames form a group. No condition beyond those that each theorem states.
-/
import Derived.Test.YtnflmbmhncndfaaFrIv
import Derived.Test.YtnflmbmhncndfaaFrP
namespace Go.Proofs.Ytnflmbmhncndfaa
open Go.RowKit

theorem qx1 (x y : Int) : qx x y 1 = -y := rfl
theorem qx2 (x y : Int) : qx x y 2 = -x := rfl
theorem qx3 (x y : Int) : qx x y 3 = - -y := rfl
theorem qy1 (x y : Int) : qy x y 1 = x := rfl
theorem qy2 (x y : Int) : qy x y 2 = -y := rfl
theorem qy3 (x y : Int) : qy x y 3 = -x := rfl
theorem md0 (c : Int) (h : 0 ≤ c) (h' : c ≤ 3) : (0 + c) % 4 = c := by omega
/-- Turning turned vectors. -/
theorem turn_turn {q r x y x' y' : Int} (h1 : 0 ≤ q) (h2 : q ≤ 3) (h3 : 0 ≤ r) (h4 : r ≤ 3) :
    qx (x + qx x' y' r) (y + qy x' y' r) q = qx x y q + qx x' y' ((q + r) % 4) ∧ qy (x + qx x' y' r) (y + qy x' y' r) q = qy x y q + qy x' y' ((q + r) % 4) := by
  rcases q_cases h1 h2 with rfl | rfl | rfl | rfl <;> rcases q_cases h3 h4 with rfl | rfl | rfl | rfl <;>
    (simp only [Int.reduceAdd, Int.reduceMod, qx_zero, qy_zero, qx1, qx2, qx3, qy1, qy2, qy3]; refine ⟨?_, ?_⟩ <;> first | trivial | omega)
theorem qx_org (q : Int) (h1 : 0 ≤ q) (h2 : q ≤ 3) : qx 0 0 q = 0 ∧ qy 0 0 q = 0 := by
  rcases q_cases h1 h2 with rfl | rfl | rfl | rfl <;> simp [qx_zero, qy_zero, qx1, qx2, qx3, qy1, qy2, qy3]
theorem cm_not {x y q a b c : Int} (h : frB x y q = false ∨ frB a b c = false) : cmX x y q a b c = 0 ∧ cmY x y q a b c = 0 ∧ cmQ x y q a b c = 0 := by
  have hB : coB x y q a b c = false := by unfold coB; rcases h with h | h <;> rw [h] <;> simp
  unfold cmX cmY cmQ
  rw [hB]
  exact ⟨rfl, rfl, rfl⟩
/-- The zero frame changes nothing. -/
theorem cm_zero {x y q : Int} (h : frB x y q = true) : (cmX x y q 0 0 0 = x ∧ cmY x y q 0 0 0 = y ∧ cmQ x y q 0 0 0 = q) ∧ cmX 0 0 0 x y q = x ∧ cmY 0 0 0 x y q = y ∧ cmQ 0 0 0 x y q = q := by
  obtain ⟨⟨h1, h2⟩, ⟨h3, h4⟩, h5, h6⟩ := frB_t.1 h
  have z : frB 0 0 0 = true := by decide
  obtain ⟨e1, e2⟩ := qx_org q h5 h6
  exact ⟨cm_of h z (by omega) (by omega) (by omega) h, cm_of z h (by rw [qx_zero]; omega) (by rw [qy_zero]; omega) (by omega) h⟩
theorem absF_bd {n M : Int} (h : absF n ≤ M) : -M ≤ n ∧ n ≤ M := by unfold absF at h; omega
/-- How far the turned coordinates are at most. -/
theorem q_far {x y : Int} (q : Int) (h1 : 0 ≤ q) (h2 : q ≤ 3) : absF (qx x y q) ≤ absF x + absF y ∧ absF (qy x y q) ≤ absF x + absF y := by
  rcases q_cases h1 h2 with rfl | rfl | rfl | rfl <;> simp only [qx_zero, qy_zero, qx1, qx2, qx3, qy1, qy2, qy3, absF] <;> omega
theorem absF_add (x y : Int) : absF (x + y) ≤ absF x + absF y := by unfold absF; omega
theorem absF_nn (x : Int) : 0 ≤ absF x := by unfold absF; omega
theorem frB_of {x y q : Int} (h1 : absF x ≤ 1000000) (h2 : absF y ≤ 1000000) (h3 : 0 ≤ q) (h4 : q ≤ 3) : frB x y q = true := by
  unfold absF at h1 h2
  exact frB_t.2 (by omega)
theorem q_more {x y : Int} (q : Int) (h1 : 0 ≤ q) (h2 : q ≤ 3) : absF (qx x y q) + absF (qy x y q) = absF x + absF y := by
  rcases q_cases h1 h2 with rfl | rfl | rfl | rfl <;> simp only [qx_zero, qy_zero, qx1, qx2, qx3, qy1, qy2, qy3, absF] <;> omega

/-- Composition is associative as long as the results are in range. -/
theorem cm_assoc {x y q a b c k l m : Int} (h : frB x y q = true) (h' : frB a b c = true) (h'' : frB k l m = true) (hs : absF x + absF a + absF k + absF y + absF b + absF l ≤ 1000000) :
    cmX (cmX x y q a b c) (cmY x y q a b c) (cmQ x y q a b c) k l m = cmX x y q (cmX a b c k l m) (cmY a b c k l m) (cmQ a b c k l m) ∧
    cmY (cmX x y q a b c) (cmY x y q a b c) (cmQ x y q a b c) k l m = cmY x y q (cmX a b c k l m) (cmY a b c k l m) (cmQ a b c k l m) ∧
    cmQ (cmX x y q a b c) (cmY x y q a b c) (cmQ x y q a b c) k l m = cmQ x y q (cmX a b c k l m) (cmY a b c k l m) (cmQ a b c k l m) ∧
    frB (cmX x y q a b c) (cmY x y q a b c) (cmQ x y q a b c) = true ∧ cmX x y q a b c = x + qx a b q ∧ cmY x y q a b c = y + qy a b q ∧ cmQ x y q a b c = (q + c) % 4 := by
  obtain ⟨_, _, q0, q3⟩ := frB_t.1 h
  obtain ⟨_, _, c0, c3⟩ := frB_t.1 h'
  obtain ⟨_, _, m0, m3⟩ := frB_t.1 h''
  have n1 := absF_nn x; have n2 := absF_nn y; have n3 := absF_nn a; have n4 := absF_nn b; have n5 := absF_nn k; have n6 := absF_nn l
  have f1 := q_more (x := a) (y := b) q q0 q3
  have f2 := q_more (x := k) (y := l) c c0 c3
  have g1 := absF_nn (qx a b q); have g2 := absF_nn (qy a b q); have g3 := absF_nn (qx k l c); have g4 := absF_nn (qy k l c)
  have a1 := absF_add x (qx a b q)
  have a2 := absF_add y (qy a b q)
  have a3 := absF_add a (qx k l c)
  have a4 := absF_add b (qy k l c)
  have v1 : frB (x + qx a b q) (y + qy a b q) ((q + c) % 4) = true := frB_of (by omega) (by omega) (by omega) (by omega)
  have v2 : frB (a + qx k l c) (b + qy k l c) ((c + m) % 4) = true := frB_of (by omega) (by omega) (by omega) (by omega)
  obtain ⟨d1, d2, d3⟩ := cm_of h h' rfl rfl rfl v1
  obtain ⟨e1, e2, e3⟩ := cm_of h' h'' rfl rfl rfl v2
  have r0 : 0 ≤ (q + c) % 4 := by omega
  have r3 : (q + c) % 4 ≤ 3 := by omega
  have f3 := q_more (x := k) (y := l) ((q + c) % 4) r0 r3
  have g5 := absF_nn (qx k l ((q + c) % 4)); have g6 := absF_nn (qy k l ((q + c) % 4))
  have a5 := absF_add (x + qx a b q) (qx k l ((q + c) % 4))
  have a6 := absF_add (y + qy a b q) (qy k l ((q + c) % 4))
  have v3 : frB (x + qx a b q + qx k l ((q + c) % 4)) (y + qy a b q + qy k l ((q + c) % 4)) (((q + c) % 4 + m) % 4) = true := frB_of (by omega) (by omega) (by omega) (by omega)
  obtain ⟨p1, p2, p3⟩ := cm_of v1 h'' rfl rfl rfl v3
  obtain ⟨t1, t2⟩ := turn_turn (x := a) (y := b) (x' := k) (y' := l) q0 q3 c0 c3
  have v4 : frB (x + qx (a + qx k l c) (b + qy k l c) q) (y + qy (a + qx k l c) (b + qy k l c) q) ((q + (c + m) % 4) % 4) = true := by
    rw [t1, t2, ← Int.add_assoc, ← Int.add_assoc, show (q + (c + m) % 4) % 4 = ((q + c) % 4 + m) % 4 by omega]; exact v3
  obtain ⟨s1, s2, s3⟩ := cm_of h v2 rfl rfl rfl v4
  rw [d1, d2, d3, e1, e2, e3, p1, p2, p3, s1, s2, s3]
  exact ⟨by rw [t1]; omega, by rw [t2]; omega, by omega, v1, rfl, rfl, rfl⟩

theorem ap_of {x y q px py : Int} (h : frB x y q = true) (h' : ptB px py = true) : apX x y q px py = x + qx px py q ∧ apY x y q px py = y + qy px py q := by
  have hB : apB x y q px py = true := by unfold apB; rw [h, h']; rfl
  unfold apX apY
  rw [if_pos hB, if_pos hB]
  exact ⟨rfl, rfl⟩
/-- Applying a composed frame is applying both. -/
theorem ap_cm {x y q a b c k l m px py : Int} (h : frB x y q = true) (h' : frB a b c = true) (h'' : frB k l m = true) (hs : absF x + absF a + absF k + absF y + absF b + absF l ≤ 1000000) (hp : ptB px py = true) (hi : ptB (apX a b c px py) (apY a b c px py) = true) :
    apX (cmX x y q a b c) (cmY x y q a b c) (cmQ x y q a b c) px py = apX x y q (apX a b c px py) (apY a b c px py) ∧ apY (cmX x y q a b c) (cmY x y q a b c) (cmQ x y q a b c) px py = apY x y q (apX a b c px py) (apY a b c px py) := by
  obtain ⟨_, _, q0, q3⟩ := frB_t.1 h
  obtain ⟨_, _, c0, c3⟩ := frB_t.1 h'
  obtain ⟨_, _, _, v, e1, e2, e3⟩ := cm_assoc h h' h'' hs
  obtain ⟨p1, p2⟩ := ap_of v hp
  obtain ⟨r1, r2⟩ := ap_of h hi
  obtain ⟨s1, s2⟩ := ap_of h' hp
  obtain ⟨t1, t2⟩ := turn_turn (x := a) (y := b) (x' := px) (y' := py) q0 q3 c0 c3
  rw [p1, p2, r1, r2, s1, s2, e1, e2, e3]
  exact ⟨by rw [t1]; omega, by rw [t2]; omega⟩

end Go.Proofs.Ytnflmbmhncndfaa
