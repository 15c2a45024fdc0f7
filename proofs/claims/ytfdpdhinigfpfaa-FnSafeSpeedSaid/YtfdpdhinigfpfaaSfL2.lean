/-
  The walk of the law on safe speeds. No condition.
-/
import Derived.Test.YtfdpdhinigfpfaaSfL1
import Derived.Test.YtfdpdhinigfpfaaSfDraw2
namespace Go.Proofs.Ytfdpdhinigfpfaa
open Go.RowKit

/-! ### plain -/
theorem safeN_ok {d r m : Int} : ∀ T : Nat, safeN d r m T = 0 ∨ safeN d r m T + stopF (safeN d r m T) r ≤ d - m := by
  intro T
  induction T with
  | zero => left; rfl
  | succ n ih =>
    rw [safeN]
    split
    · exact ih
    · right; omega
theorem safeN_next {d r m : Int} : ∀ T : Nat, safeN d r m T = T ∨ d - m < safeN d r m T + 1 + stopF (safeN d r m T + 1) r := by
  intro T
  induction T with
  | zero => left; rfl
  | succ n ih =>
    rw [safeN]
    split
    · rename_i hc
      rcases ih with h | h
      · right; rw [h]; exact hc
      · right; exact h
    · left; omega
theorem safeN_mono {d d' r m : Int} (h : d ≤ d') : ∀ T : Nat, safeN d r m T ≤ safeN d' r m T := by
  intro T
  induction T with
  | zero => exact Int.le_refl _
  | succ n ih =>
    rw [safeN, safeN]
    have hb := safeN_bd (d := d) (r := r) (m := m) n
    split
    · split
      · exact ih
      · omega
    · rename_i hc
      rw [if_neg (by omega)]
      exact Int.le_refl _
/-- What the law says of a safe speed. -/
theorem safe_law {d r m : Int} (h : safeB d r m = true) : (0 ≤ safeF d r m ∧ safeF d r m ≤ 200) ∧ (safeF d r m = 0 ∨ safeF d r m + stopF (safeF d r m) r ≤ d - m) ∧
    (safeF d r m = 200 ∨ d - m < safeF d r m + 1 + stopF (safeF d r m + 1) r) ∧ (d = 5000 ∨ safeF d r m ≤ safeF (d + 1) r m) := by
  obtain ⟨⟨h0, h1⟩, ⟨h2, h3⟩, h4, h5⟩ := safeB_t.1 h
  rw [safeF_val h0 h1 h2 h3 h4 h5]
  refine ⟨safeN_bd 200, safeN_ok 200, safeN_next 200, ?_⟩
  by_cases hd : d = 5000
  · exact .inl hd
  · rw [safeF_val (by omega) (by omega) h2 h3 h4 h5]
    exact .inr (safeN_mono (by omega) 200)

/-! ### the walk -/
set_option maxHeartbeats 4000000 in
theorem lawSafeSpeed_any (a : Option Addr) (n c : Nat) (w : World) (hb : Bytes w w.heap.size a n) (hnc : n ≤ c) (hcm : c ≤ maxLen) :
    Calls Try.prog 5 #[.slice a n c] w fun e w' => e = .returned (.bool true) ∧ Up w w' := by
  have hm : c ≤ 9223372036854775807 := by unfold maxLen at hcm; omega
  by_cases hn : n ≤ 1048576
  · go_enter Try.func5, Try.ntmps5
    go_wp2_with (first | (go_at_call 19; refine (drawSafe_any _ _ _ _ hb hnc hcm).mono ?_; rintro e w1 ⟨d, r, m, ⟨hv0, hv1⟩, ⟨hr0, hr1⟩, ⟨hm0, hm1⟩, rfl, os0, d0, rfl⟩))
    cases hA : safeB d r m
    · have e0 : safeF d r m = -1 := by unfold safeF; rw [hA]; rfl
      clear hA
      go_wp2_with (first | (go_at_call 14; refine (safe_any _ _ _ _).mono ?_; rintro e w' ⟨rfl, rfl⟩) | (go_at_call 13; refine (sSafe_any _ _ _ _).mono ?_; rintro e w' ⟨rfl, rfl⟩) | (go_at_call 18; refine (alive_any _).mono ?_; rintro e w' ⟨rfl, rfl⟩))
      go_ret
      exact ⟨rfl, up_of_below (by repeat (first | with_reducible exact Below.refl _ _ | with_reducible apply below_alloc | with_reducible apply below_drw | with_reducible apply below_drew | with_reducible apply below_drewN | with_reducible apply below_plus | with_reducible apply below_set | (simp; done)))⟩
    · obtain ⟨⟨b0, b1⟩, c1, c2, c3⟩ := safe_law hA
      obtain ⟨s1, s2⟩ := stopF_bd (s := safeF d r m) (r := r)
      obtain ⟨s3, s4⟩ := stopF_bd (s := safeF d r m + 1) (r := r)
      clear hA
      have z1 : (safeF d r m == 0) = true ∨ (safeF d r m == 0) = false ∧ safeF d r m + stopF (safeF d r m) r ≤ d - m := by
        rcases c1 with h | h
        · left; rw [h]; rfl
        · by_cases g : safeF d r m = 0
          · left; rw [g]; rfl
          · right; exact ⟨by simp [g], h⟩
      have z2 : (safeF d r m == 200) = true ∨ (safeF d r m == 200) = false ∧ d - m < safeF d r m + 1 + stopF (safeF d r m + 1) r := by
        rcases c2 with h | h
        · left; rw [h]; rfl
        · by_cases g : safeF d r m = 200
          · left; rw [g]; rfl
          · right; exact ⟨by simp [g], h⟩
      have z3 : (d == 5000) = true ∨ (d == 5000) = false ∧ safeF d r m ≤ safeF (d + 1) r m := by
        rcases c3 with h | h
        · left; rw [h]; rfl
        · by_cases g : d = 5000
          · left; rw [g]; rfl
          · right; exact ⟨by simp [g], h⟩
      clear c1 c2 c3
      rcases z1 with y1 | ⟨y1, x1⟩ <;> rcases z2 with y2 | ⟨y2, x2⟩ <;> rcases z3 with y3 | ⟨y3, x3⟩ <;>
      · go_wp2_with (first | (go_at_call 14; refine (safe_any _ _ _ _).mono ?_; rintro e w' ⟨rfl, rfl⟩) | (go_at_call 13; refine (sSafe_any _ _ _ _).mono ?_; rintro e w' ⟨rfl, rfl⟩) | (go_at_call 16; refine (stop_any _ _ _).mono ?_; rintro e w' ⟨rfl, rfl⟩))
        go_ret
        exact ⟨rfl, up_of_below (by repeat (first | with_reducible exact Below.refl _ _ | with_reducible apply below_alloc | with_reducible apply below_drw | with_reducible apply below_drew | with_reducible apply below_drewN | with_reducible apply below_plus | with_reducible apply below_set | (simp; done)))⟩
  · go_enter Try.func5, Try.ntmps5
    go_wp2
    go_ret
    exact ⟨rfl, up_of_below (Below.refl _ _)⟩

end Go.Proofs.Ytfdpdhinigfpfaa
