/-
  Plain: limits of speed of a list of zones that is cut in two. No program in sight. No condition beyond those that each theorem states.
-/
import Derived.Test.YtfdpdhinigfpfaaLi
namespace Go.Proofs.Ytfdpdhinigfpfaa
open Go.RowKit

theorem getD_take {zs : List Int} {k i : Nat} (h : i < k) : (zs.take k).getD i 0 = zs.getD i 0 := by
  rw [List.getD_eq_getElem?_getD, List.getElem?_take_of_lt h, ← List.getD_eq_getElem?_getD]
theorem getD_drop {zs : List Int} {k i : Nat} : (zs.drop k).getD i 0 = zs.getD (k + i) 0 := by
  rw [List.getD_eq_getElem?_getD, List.getElem?_drop, ← List.getD_eq_getElem?_getD]
theorem z_take {zs : List Int} {h j : Nat} (hj : j < h) : zX (zs.take (h * 4)) j = zX zs j ∧ zY (zs.take (h * 4)) j = zY zs j ∧ zR (zs.take (h * 4)) j = zR zs j ∧ zS (zs.take (h * 4)) j = zS zs j := by
  unfold zX zY zR zS
  exact ⟨getD_take (by omega), getD_take (by omega), getD_take (by omega), getD_take (by omega)⟩
theorem z_drop {zs : List Int} {h j : Nat} : zX (zs.drop (h * 4)) j = zX zs (h + j) ∧ zY (zs.drop (h * 4)) j = zY zs (h + j) ∧ zR (zs.drop (h * 4)) j = zR zs (h + j) ∧ zS (zs.drop (h * 4)) j = zS zs (h + j) := by
  unfold zX zY zR zS
  rw [getD_drop, getD_drop, getD_drop, getD_drop]
  exact ⟨by congr 1; omega, by congr 1; omega, by congr 1; omega, by congr 1; omega⟩
theorem limN_le (zs : List Int) (u v : Int) : ∀ n, limN zs u v n ≤ 200
  | 0 => Int.le_refl _
  | n + 1 => by have := limN_le zs u v n; rw [limN]; split <;> omega
theorem limN_take {zs : List Int} {u v : Int} {h : Nat} : ∀ {n : Nat}, n ≤ h → limN (zs.take (h * 4)) u v n = limN zs u v n
  | 0, _ => rfl
  | n + 1, hn => by
    obtain ⟨e1, e2, e3, e4⟩ := z_take (zs := zs) (show n < h by omega)
    rw [limN, limN, limN_take (show n ≤ h by omega), e1, e2, e3, e4]
theorem limN_split (zs : List Int) (u v : Int) (h : Nat) : ∀ m, limN zs u v (h + m) = min (limN zs u v h) (limN (zs.drop (h * 4)) u v m)
  | 0 => by have := limN_le zs u v h; simp only [Nat.add_zero, limN]; omega
  | m + 1 => by
    obtain ⟨e1, e2, e3, e4⟩ := z_drop (zs := zs) (h := h) (j := m)
    rw [← Nat.add_assoc, limN, limN, limN_split zs u v h m, e1, e2, e3, e4]
    split <;> omega
theorem ok_take {zs : List Int} {h n : Nat} (hp : zonesB n zs = true) (hh : h ≤ n) : zonesB h (zs.take (h * 4)) = true := by
  have h1 := zonesB_t.1 hp
  refine zonesB_t.2 ⟨by omega, fun j hj => ?_⟩
  have h2 := h1.2 j (by omega)
  obtain ⟨e1, e2, e3, e4⟩ := z_take (zs := zs) hj
  unfold okZ at h2 ⊢
  rw [e1, e2, e3, e4]
  exact h2
theorem ok_drop {zs : List Int} {h n : Nat} (hp : zonesB n zs = true) (hh : h ≤ n) : zonesB (n - h) (zs.drop (h * 4)) = true := by
  have h1 := zonesB_t.1 hp
  refine zonesB_t.2 ⟨by omega, fun j hj => ?_⟩
  have h2 := h1.2 (h + j) (by omega)
  obtain ⟨e1, e2, e3, e4⟩ := z_drop (zs := zs) (h := h) (j := j)
  unfold okZ at h2 ⊢
  rw [e1, e2, e3, e4]
  exact h2
/-- The plain law on zones that are cut in two. -/
theorem lim_join {zs : List Int} {u v : Int} {n h : Nat} (hB : limB n zs u v = true) (hh : h ≤ n) : limF n zs u v = min (limF h (zs.take (h * 4)) u v) (limF (n - h) (zs.drop (h * 4)) u v) := by
  unfold limB at hB
  rw [Bool.and_eq_true] at hB
  have b1 : limB h (zs.take (h * 4)) u v = true := by unfold limB; rw [ok_take hB.1 hh, hB.2]; rfl
  have b2 : limB (n - h) (zs.drop (h * 4)) u v = true := by unfold limB; rw [ok_drop hB.1 hh, hB.2]; rfl
  have b0 : limB n zs u v = true := by unfold limB; rw [hB.1, hB.2]; rfl
  rw [limF, limF, limF, if_pos b0, if_pos b1, if_pos b2, limN_take (Nat.le_refl _)]
  have := limN_split zs u v h (n - h)
  rw [show h + (n - h) = n by omega] at this
  exact this
/-- Without the last zone the limit is not less. -/
theorem lim_less {zs : List Int} {u v : Int} {n : Nat} (hB : limB (n + 1) zs u v = true) : limF (n + 1) zs u v ≤ limF n (zs.take (n * 4)) u v := by
  unfold limB at hB
  rw [Bool.and_eq_true] at hB
  have b1 : limB n (zs.take (n * 4)) u v = true := by unfold limB; rw [ok_take hB.1 (by omega), hB.2]; rfl
  have b0 : limB (n + 1) zs u v = true := by unfold limB; rw [hB.1, hB.2]; rfl
  rw [limF, limF, if_pos b0, if_pos b1, limN_take (Nat.le_refl _), limN]
  split <;> omega
/-- Some of the first n speeds, or the most, is v. -/
def metB (zs : List Int) (v : Int) : Nat → Bool
  | 0 => v == 200
  | j + 1 => metB zs v j || v == zS zs j
theorem metB_le {zs : List Int} {v : Int} : ∀ {n m : Nat}, n ≤ m → metB zs v n = true → metB zs v m = true := by
  intro n m h
  induction h with
  | refl => exact id
  | step _ ih => intro h1; rw [metB, ih h1]; rfl
theorem lim_met (zs : List Int) (u v : Int) : ∀ n, metB zs (limN zs u v n) n = true
  | 0 => rfl
  | n + 1 => by
    have ih := lim_met zs u v n
    rw [limN]
    split
    · by_cases h : limN zs u v n ≤ zS zs n
      · rw [show min (limN zs u v n) (zS zs n) = limN zs u v n by omega, metB, ih]; rfl
      · rw [show min (limN zs u v n) (zS zs n) = zS zs n by omega, metB]; simp
    · rw [metB, ih]; rfl
/-- In the center of a zone. -/
theorem lim_center {zs : List Int} : ∀ {n j : Nat}, j < n → limN zs (zX zs j) (zY zs j) n ≤ zS zs j
  | n + 1, j, h => by
    rw [limN]
    by_cases e : j = n
    · subst e
      have h0 : sqF (zX zs j) (zY zs j) (zX zs j) (zY zs j) = 0 := by unfold sqF; simp
      have h1 : 0 ≤ zR zs j * zR zs j := by
        rcases Int.le_total 0 (zR zs j) with h | h
        · exact Int.mul_nonneg h h
        · have := Int.mul_nonneg (show 0 ≤ -(zR zs j) by omega) (show 0 ≤ -(zR zs j) by omega)
          rwa [Int.neg_mul_neg] at this
      rw [if_pos (by omega)]
      omega
    · have := lim_center (zs := zs) (show j < n by omega)
      split <;> omega

end Go.Proofs.Ytfdpdhinigfpfaa
