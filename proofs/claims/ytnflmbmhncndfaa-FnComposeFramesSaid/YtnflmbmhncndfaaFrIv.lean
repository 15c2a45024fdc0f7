/-
  Plain: a frame and its inverse. No condition.
-/
import Derived.Test.YtnflmbmhncndfaaFr2
namespace Go.Proofs.Ytnflmbmhncndfaa
open Go.RowKit

theorem q_cases {q : Int} (h1 : 0 ≤ q) (h2 : q ≤ 3) : q = 0 ∨ q = 1 ∨ q = 2 ∨ q = 3 := by omega
/-- The results of an inversion. -/
def IvL (x y q a b c : Int) : Prop := frB a b c = true ∧ cmX x y q a b c = 0 ∧ cmY x y q a b c = 0 ∧ cmQ x y q a b c = 0 ∧ cmX a b c x y q = 0 ∧ cmY a b c x y q = 0 ∧ cmQ a b c x y q = 0 ∧ invX a b c = x ∧ invY a b c = y ∧ invQ a b c = q
theorem cm_of {x y q a b c X Y Q : Int} (h : frB x y q = true) (h' : frB a b c = true) (hX : x + qx a b q = X) (hY : y + qy a b q = Y) (hQ : (q + c) % 4 = Q) (hv : frB X Y Q = true) :
    cmX x y q a b c = X ∧ cmY x y q a b c = Y ∧ cmQ x y q a b c = Q := by
  have hB : coB x y q a b c = true := by unfold coB coX coY coQ; rw [h, h', hX, hY, hQ, hv]; rfl
  unfold cmX cmY cmQ
  rw [if_pos hB, if_pos hB, if_pos hB]
  exact ⟨hX, hY, hQ⟩
theorem inv_of {x y q : Int} (h : frB x y q = true) : invX x y q = ivX x y q ∧ invY x y q = ivY x y q ∧ invQ x y q = ivQ q := by
  unfold invX invY invQ
  rw [if_pos h, if_pos h, if_pos h]
  exact ⟨rfl, rfl, rfl⟩
theorem iv_law {x y q : Int} (h : frB x y q = true) : IvL x y q (invX x y q) (invY x y q) (invQ x y q) := by
  obtain ⟨e1, e2, e3⟩ := inv_of h
  rw [e1, e2, e3]
  obtain ⟨⟨h1, h2⟩, ⟨h3, h4⟩, h5, h6⟩ := frB_t.1 h
  have z : frB 0 0 0 = true := by decide
  rcases q_cases h5 h6 with rfl | rfl | rfl | rfl
  · have hv : frB (ivX x y 0) (ivY x y 0) (ivQ 0) = true := frB_t.2 (by simp [ivX, ivY, ivQ, qx, qy, qt]; omega)
    refine ⟨hv, ?_⟩
    obtain ⟨a1, a2, a3⟩ := cm_of h hv (X := 0) (Y := 0) (Q := 0) (by simp [ivX, ivY, ivQ, qx, qy, qt] <;> omega) (by simp [ivX, ivY, ivQ, qx, qy, qt] <;> omega) (by decide) z
    obtain ⟨b1, b2, b3⟩ := cm_of hv h (X := 0) (Y := 0) (Q := 0) (by simp [ivX, ivY, ivQ, qx, qy, qt] <;> omega) (by simp [ivX, ivY, ivQ, qx, qy, qt] <;> omega) (by decide) z
    obtain ⟨c1, c2, c3⟩ := inv_of hv
    exact ⟨a1, a2, a3, b1, b2, b3, c1.trans (by simp [ivX, ivY, ivQ, qx, qy, qt]), c2.trans (by simp [ivX, ivY, ivQ, qx, qy, qt]), c3.trans (by decide)⟩
  · have hv : frB (ivX x y 1) (ivY x y 1) (ivQ 1) = true := frB_t.2 (by simp [ivX, ivY, ivQ, qx, qy, qt]; omega)
    refine ⟨hv, ?_⟩
    obtain ⟨a1, a2, a3⟩ := cm_of h hv (X := 0) (Y := 0) (Q := 0) (by simp [ivX, ivY, ivQ, qx, qy, qt] <;> omega) (by simp [ivX, ivY, ivQ, qx, qy, qt] <;> omega) (by decide) z
    obtain ⟨b1, b2, b3⟩ := cm_of hv h (X := 0) (Y := 0) (Q := 0) (by simp [ivX, ivY, ivQ, qx, qy, qt] <;> omega) (by simp [ivX, ivY, ivQ, qx, qy, qt] <;> omega) (by decide) z
    obtain ⟨c1, c2, c3⟩ := inv_of hv
    exact ⟨a1, a2, a3, b1, b2, b3, c1.trans (by simp [ivX, ivY, ivQ, qx, qy, qt]), c2.trans (by simp [ivX, ivY, ivQ, qx, qy, qt]), c3.trans (by decide)⟩
  · have hv : frB (ivX x y 2) (ivY x y 2) (ivQ 2) = true := frB_t.2 (by simp [ivX, ivY, ivQ, qx, qy, qt]; omega)
    refine ⟨hv, ?_⟩
    obtain ⟨a1, a2, a3⟩ := cm_of h hv (X := 0) (Y := 0) (Q := 0) (by simp [ivX, ivY, ivQ, qx, qy, qt] <;> omega) (by simp [ivX, ivY, ivQ, qx, qy, qt] <;> omega) (by decide) z
    obtain ⟨b1, b2, b3⟩ := cm_of hv h (X := 0) (Y := 0) (Q := 0) (by simp [ivX, ivY, ivQ, qx, qy, qt] <;> omega) (by simp [ivX, ivY, ivQ, qx, qy, qt] <;> omega) (by decide) z
    obtain ⟨c1, c2, c3⟩ := inv_of hv
    exact ⟨a1, a2, a3, b1, b2, b3, c1.trans (by simp [ivX, ivY, ivQ, qx, qy, qt]), c2.trans (by simp [ivX, ivY, ivQ, qx, qy, qt]), c3.trans (by decide)⟩
  · have hv : frB (ivX x y 3) (ivY x y 3) (ivQ 3) = true := frB_t.2 (by simp [ivX, ivY, ivQ, qx, qy, qt]; omega)
    refine ⟨hv, ?_⟩
    obtain ⟨a1, a2, a3⟩ := cm_of h hv (X := 0) (Y := 0) (Q := 0) (by simp [ivX, ivY, ivQ, qx, qy, qt] <;> omega) (by simp [ivX, ivY, ivQ, qx, qy, qt] <;> omega) (by decide) z
    obtain ⟨b1, b2, b3⟩ := cm_of hv h (X := 0) (Y := 0) (Q := 0) (by simp [ivX, ivY, ivQ, qx, qy, qt] <;> omega) (by simp [ivX, ivY, ivQ, qx, qy, qt] <;> omega) (by decide) z
    obtain ⟨c1, c2, c3⟩ := inv_of hv
    exact ⟨a1, a2, a3, b1, b2, b3, c1.trans (by simp [ivX, ivY, ivQ, qx, qy, qt]), c2.trans (by simp [ivX, ivY, ivQ, qx, qy, qt]), c3.trans (by decide)⟩

end Go.Proofs.Ytnflmbmhncndfaa
