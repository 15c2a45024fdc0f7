/-
  The walk of the law on stopping distances and safe speeds. No condition.
-/
import Derived.Test.YtfdpdhinigfpfaaSfDraw
namespace Go.Proofs.Ytfdpdhinigfpfaa
open Go.RowKit

/-! ### plain -/
theorem stopN_mono {r : Int} : ∀ (k : Nat) (v v' : Int), v ≤ v' → 0 ≤ r → v' ≤ 200 → stopN r k v ≤ stopN r k v' := by
  intro k
  induction k with
  | zero => intro v v' _ _ _; exact Int.le_refl _
  | succ n ih =>
    intro v v' h hr hv
    by_cases h1 : 0 < v
    · rw [stopN_pos n h1, stopN_pos n (by omega)]
      have := ih (v - r) (v' - r) (by omega) hr (by omega)
      omega
    · rw [stopN_neg (n + 1) (by omega)]
      exact (stopN_bd hr (n + 1) v' hv).1
theorem stopF_val {v r : Int} (h0 : 0 ≤ v) (h1 : v ≤ 200) (h2 : 1 ≤ r) (h3 : r ≤ 50) : stopF v r = stopN r 200 (v - r) := by
  unfold stopF; rw [if_pos (stopB_t.2 ⟨⟨h0, h1⟩, h2, h3⟩)]
theorem stopF_pos {v r : Int} (h0 : 0 ≤ v) (h1 : v ≤ 200) (h2 : 1 ≤ r) (h3 : r ≤ 50) : 0 ≤ stopF v r := by
  rw [stopF_val h0 h1 h2 h3]; exact (stopN_bd (by omega) 200 _ (by omega)).1
theorem stopF_mono {v v' r : Int} (h0 : 0 ≤ v) (h : v ≤ v') (h1 : v' ≤ 200) (h2 : 1 ≤ r) (h3 : r ≤ 50) : stopF v r ≤ stopF v' r := by
  rw [stopF_val h0 (by omega) h2 h3, stopF_val (by omega) h1 h2 h3]
  exact stopN_mono 200 _ _ (by omega) (by omega) (by omega)
theorem safeN_ge {d r m v : Int} (h0 : 0 < v) (hc : v + stopF v r ≤ d - m) : ∀ T : Nat, v ≤ T → v ≤ safeN d r m T := by
  intro T
  induction T with
  | zero => intro h; omega
  | succ n ih =>
    intro h
    rw [safeN]
    split
    · rename_i hc'
      refine ih ?_
      rcases Int.lt_or_le v ((n : Int) + 1) with g | g
      · omega
      · have e : v = (n : Int) + 1 := by omega
        rw [e] at hc; omega
    · omega
theorem safeN_lt {d r m v : Int} (h0 : 0 < v) (hc : ∀ t, v ≤ t → t ≤ 200 → d - m < t + stopF t r) : ∀ T : Nat, T ≤ 200 → safeN d r m T < v := by
  intro T
  induction T with
  | zero => intro _; exact h0
  | succ n ih =>
    intro h
    rw [safeN]
    split
    · exact ih (by omega)
    · rename_i hc'
      rcases Int.lt_or_le ((n : Int) + 1) v with g | g
      · omega
      · exact absurd (hc _ g (by omega)) hc'
theorem safeN_bd {d r m : Int} : ∀ T : Nat, 0 ≤ safeN d r m T ∧ safeN d r m T ≤ T := by
  intro T
  induction T with
  | zero => simp [safeN]
  | succ n ih => rw [safeN]; split <;> omega
theorem safeF_val {d r m : Int} (h0 : 0 ≤ d) (h1 : d ≤ 5000) (h2 : 1 ≤ r) (h3 : r ≤ 50) (h4 : 0 ≤ m) (h5 : m ≤ 5000) : safeF d r m = safeN d r m 200 := by
  unfold safeF; rw [if_pos (safeB_t.2 ⟨⟨h0, h1⟩, ⟨h2, h3⟩, h4, h5⟩)]; rfl
theorem stop_safe {v r : Int} (h0 : 1 ≤ v) (h1 : v ≤ 200) (h2 : 1 ≤ r) (h3 : r ≤ 50) (hn : v + stopF v r ≤ 5000) :
    v ≤ safeF (v + stopF v r) r 0 ∧ safeF (v + stopF v r - 1) r 0 < v := by
  have hp := stopF_pos (v := v) (r := r) (by omega) h1 h2 h3
  rw [safeF_val (by omega) hn h2 h3 (by omega) (by omega), safeF_val (by omega) (by omega) h2 h3 (by omega) (by omega)]
  refine ⟨safeN_ge (by omega) (by omega) 200 (by omega), safeN_lt (by omega) (fun t ht ht' => ?_) 200 (by omega)⟩
  have := stopF_mono (v := v) (v' := t) (r := r) (by omega) ht ht' h2 h3
  omega

/-! ### the walk -/
set_option maxHeartbeats 2000000 in
theorem lawStopSafe_any (a : Option Addr) (n c : Nat) (w : World) (hb : Bytes w w.heap.size a n) (hnc : n ≤ c) (hcm : c ≤ maxLen) :
    Calls Try.prog 4 #[.slice a n c] w fun e w' => e = .returned (.bool true) ∧ Up w w' := by
  have hm : c ≤ 9223372036854775807 := by unfold maxLen at hcm; omega
  by_cases hn : n ≤ 1048576
  · go_enter Try.func4, Try.ntmps4
    go_wp2_with (first | (go_at_call 15; refine (drawStop_any _ _ _ _ hb hnc hcm).mono ?_; rintro e w1 ⟨v, r, hv0, hv1, hr0, hr1, rfl, os0, d0, rfl⟩))
    obtain ⟨s1, s2⟩ := stopF_bd (s := v) (r := r)
    by_cases hA : 1 ≤ v ∧ v ≤ 200 ∧ 1 ≤ r ∧ r ≤ 50
    · obtain ⟨a1, a2, a3, a4⟩ := hA
      have hp := stopF_pos (v := v) (r := r) (by omega) a2 a3 a4
      have hz : (v == 0) = false := by simp; omega
      by_cases hN : v + stopF v r ≤ 5000
      · obtain ⟨f1, f2⟩ := stop_safe a1 a2 a3 a4 hN
        go_wp2_with (first | (go_at_call 16; refine (stop_any _ _ _).mono ?_; rintro e w' ⟨rfl, rfl⟩) | (go_at_call 17; refine (sStop_any _ _ _).mono ?_; rintro e w' ⟨rfl, rfl⟩) | (go_at_call 14; refine (safe_any _ _ _ _).mono ?_; rintro e w' ⟨rfl, rfl⟩))
        go_ret
        exact ⟨rfl, up_of_below (by repeat (first | with_reducible exact Below.refl _ _ | with_reducible apply below_alloc | with_reducible apply below_drw | with_reducible apply below_drew | with_reducible apply below_drewN | with_reducible apply below_plus | with_reducible apply below_set | (simp; done)))⟩
      · go_wp2_with (first | (go_at_call 16; refine (stop_any _ _ _).mono ?_; rintro e w' ⟨rfl, rfl⟩) | (go_at_call 17; refine (sStop_any _ _ _).mono ?_; rintro e w' ⟨rfl, rfl⟩) | (go_at_call 14; refine (safe_any _ _ _ _).mono ?_; rintro e w' ⟨rfl, rfl⟩))
        go_ret
        exact ⟨rfl, up_of_below (by repeat (first | with_reducible exact Below.refl _ _ | with_reducible apply below_alloc | with_reducible apply below_drw | with_reducible apply below_drew | with_reducible apply below_drewN | with_reducible apply below_plus | with_reducible apply below_set | (simp; done)))⟩
    · by_cases hz : v = 0
      · have hz' : (v == 0) = true := by simp [hz]
        clear hA hz
        by_cases hneg : stopF v r < 0
        · go_wp2_with (first | (go_at_call 16; refine (stop_any _ _ _).mono ?_; rintro e w' ⟨rfl, rfl⟩) | (go_at_call 17; refine (sStop_any _ _ _).mono ?_; rintro e w' ⟨rfl, rfl⟩) | (go_at_call 18; refine (alive_any _).mono ?_; rintro e w' ⟨rfl, rfl⟩))
          go_ret
          exact ⟨rfl, up_of_below (by repeat (first | with_reducible exact Below.refl _ _ | with_reducible apply below_alloc | with_reducible apply below_drw | with_reducible apply below_drew | with_reducible apply below_drewN | with_reducible apply below_plus | with_reducible apply below_set | (simp; done)))⟩
        · go_wp2_with (first | (go_at_call 16; refine (stop_any _ _ _).mono ?_; rintro e w' ⟨rfl, rfl⟩) | (go_at_call 17; refine (sStop_any _ _ _).mono ?_; rintro e w' ⟨rfl, rfl⟩) | (go_at_call 18; refine (alive_any _).mono ?_; rintro e w' ⟨rfl, rfl⟩))
          go_ret
          exact ⟨rfl, up_of_below (by repeat (first | with_reducible exact Below.refl _ _ | with_reducible apply below_alloc | with_reducible apply below_drw | with_reducible apply below_drew | with_reducible apply below_drewN | with_reducible apply below_plus | with_reducible apply below_set | (simp; done)))⟩
      · have hneg : stopF v r < 0 := by
          unfold stopF
          rw [if_neg]
          · omega
          · intro h; have := stopB_t.1 h; omega
        clear hA
        go_wp2_with (first | (go_at_call 16; refine (stop_any _ _ _).mono ?_; rintro e w' ⟨rfl, rfl⟩) | (go_at_call 17; refine (sStop_any _ _ _).mono ?_; rintro e w' ⟨rfl, rfl⟩) | (go_at_call 18; refine (alive_any _).mono ?_; rintro e w' ⟨rfl, rfl⟩))
        go_ret
        exact ⟨rfl, up_of_below (by repeat (first | with_reducible exact Below.refl _ _ | with_reducible apply below_alloc | with_reducible apply below_drw | with_reducible apply below_drew | with_reducible apply below_drewN | with_reducible apply below_plus | with_reducible apply below_set | (simp; done)))⟩
  · go_enter Try.func4, Try.ntmps4
    go_wp2
    go_ret
    exact ⟨rfl, up_of_below (Below.refl _ _)⟩

end Go.Proofs.Ytfdpdhinigfpfaa
