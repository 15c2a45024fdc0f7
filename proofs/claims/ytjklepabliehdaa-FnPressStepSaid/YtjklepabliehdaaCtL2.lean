/-
  The walk of the law on the step of a press. No condition.
-/
import Derived.Test.YtjklepabliehdaaCtDraw2
import Derived.Test.YtjklepabliehdaaPs
namespace Go.Proofs.Ytjklepabliehdaa
open Go.RowKit

theorem frc_le_of {n w k f : Int} (hk : 1 ≤ k) (hf : 1 ≤ f) (h : k * (n - w) ≤ f) : frc n w k ≤ f := by
  have := (frc_gt (p := n) (w := w) hk hf)
  omega

/-- A valid step that does not draw back. -/
theorem prs_on {p w k f s : Int} (hB : prsB p w k f s = true) (h : ¬ f < frc p w k) : p ≤ prsF p w k f s ∧ prsF p w k f s ≤ p + s ∧ wallB (prsF p w k f s) w k = true ∧ frc (prsF p w k f s) w k ≤ f := by
  obtain ⟨⟨⟨p1, p2⟩, ⟨w1, w2⟩, k1, k2⟩, ⟨f1, f2⟩, s1, s2⟩ := prsB_t.1 hB
  have key : ∀ d, 0 ≤ d → d ≤ s → k * (p + d - w) ≤ f → p ≤ clampF (p + d) (-10000) 10000 ∧ clampF (p + d) (-10000) 10000 ≤ p + s ∧ wallB (clampF (p + d) (-10000) 10000) w k = true ∧ frc (clampF (p + d) (-10000) 10000) w k ≤ f := by
    intro d d0 d1 hd
    have hc : clampF (p + d) (-10000) 10000 = min (p + d) 10000 := by unfold clampF; omega
    rw [hc]
    refine ⟨by omega, by omega, wallB_t.2 ⟨by omega, ⟨w1, w2⟩, k1, k2⟩, frc_le_of k1 f1 ?_⟩
    have : k * (min (p + d) 10000 - w) ≤ k * (p + d - w) := Int.mul_le_mul_of_nonneg_left (by omega) (by omega)
    omega
  rw [prsF, if_pos hB, prsG, prsD, if_neg h]
  split
  · rename_i hq
    exact key _ (by omega) (by omega) (prs_free k1 (by omega))
  · split
    · refine key 0 (by omega) (by omega) ?_
      rw [Int.add_zero]
      have := frc_gt (p := p) (w := w) k1 f1
      omega
    · exact key 1 (by omega) (by omega) (by omega)

set_option maxHeartbeats 4000000 in
theorem lawPressStep_any (a : Option Addr) (n c : Nat) (w : World) (hb : Bytes w w.heap.size a n) (hnc : n ≤ c) (hcm : c ≤ maxLen) :
    Calls Try.prog 7 #[.slice a n c] w fun e w' => e = .returned (.bool true) ∧ Up w w' := by
  have hmm : c ≤ 9223372036854775807 := by unfold maxLen at hcm; omega
  by_cases hn : n ≤ 1048576
  · go_enter Try.func7, Try.ntmps7
    go_wp2_with (go_at_call 21; refine (drawPressStep_any _ _ _ _ hb hnc hcm).mono ?_; rintro e w1 ⟨p, v, k, f, s, hC, hF, rfl, os0, d0, rfl⟩)
    obtain ⟨⟨p1, p2⟩, ⟨v1, v2⟩, k1, k2⟩ := hC
    obtain ⟨⟨f1, f2⟩, s1, s2⟩ := hF
    have u1 : IntKind.i64.wrap (p + s) = p + s := IntWalk.i64_in _ (by omega)
    have u2 : IntKind.i64.wrap (p - 1) = p - 1 := IntWalk.i64_in _ (by omega)
    have u3 : wrap64 (p + s) = p + s := IntWalk.wrap64_in _ (by omega)
    have u4 : wrap64 (p - 1) = p - 1 := IntWalk.wrap64_in _ (by omega)
    cases hB : prsB p v k f s
    · have eV : prsF p v k f s = p := by rw [prsF, if_neg (by rw [hB]; decide)]
      cases hW : wallB p v k
      · have e0 := contactF_f hW
        clear hW hB
        go_wp2_with (first | (go_at_call 14; refine (press_any _ _ _ _ _ _).mono ?_; rintro e w' ⟨rfl, rfl⟩) | (go_at_call 13; refine (sPress_any _ _ _ _ _ _).mono ?_; rintro e w' ⟨rfl, rfl⟩) | (go_at_call 12; refine (contact_any _ _ _ _).mono ?_; rintro e w' ⟨rfl, rfl⟩) | (go_at_call 16; refine (alive_any _).mono ?_; rintro e w' ⟨rfl, rfl⟩))
        go_ret
        exact ⟨rfl, up_of_below (by repeat (first | with_reducible exact Below.refl _ _ | with_reducible apply below_alloc | with_reducible apply below_drw | with_reducible apply below_drew | with_reducible apply below_drewN | with_reducible apply below_plus | with_reducible apply below_set | (simp; done)))⟩
      · obtain ⟨⟨q1, q2⟩, ⟨q3, q4⟩, q5, q6⟩ := wallB_t.1 hW
        obtain ⟨b1, b2⟩ := frc_bd q1 q2 q3 q4 q5 q6
        have e0 := contactF_t hW
        have hor : f < 1 ∨ 1000 < f ∨ s < 1 := by
          have := mt prsB_t.2 (by rw [hB]; decide)
          omega
        clear hW hB
        rcases hor with g | g | g
        all_goals
          go_wp2_with (first | (go_at_call 14; refine (press_any _ _ _ _ _ _).mono ?_; rintro e w' ⟨rfl, rfl⟩) | (go_at_call 13; refine (sPress_any _ _ _ _ _ _).mono ?_; rintro e w' ⟨rfl, rfl⟩) | (go_at_call 12; refine (contact_any _ _ _ _).mono ?_; rintro e w' ⟨rfl, rfl⟩) | (go_at_call 16; refine (alive_any _).mono ?_; rintro e w' ⟨rfl, rfl⟩))
          all_goals
            go_ret
            exact ⟨rfl, up_of_below (by repeat (first | with_reducible exact Below.refl _ _ | with_reducible apply below_alloc | with_reducible apply below_drw | with_reducible apply below_drew | with_reducible apply below_drewN | with_reducible apply below_plus | with_reducible apply below_set | (simp; done)))⟩
    · obtain ⟨⟨⟨q1, q2⟩, ⟨q3, q4⟩, q5, q6⟩, ⟨g1, g2⟩, t1, t2⟩ := prsB_t.1 hB
      obtain ⟨b1, b2⟩ := frc_bd q1 q2 q3 q4 q5 q6
      have hW : wallB p v k = true := wallB_t.2 ⟨⟨q1, q2⟩, ⟨q3, q4⟩, q5, q6⟩
      have e0 := contactF_t hW
      by_cases hc : f < frc p v k
      · have eV : prsF p v k f s = max (p - 1) (-10000) := by
          rw [prsF, if_pos hB, prsG, prsD, if_pos hc]; unfold clampF; omega
        by_cases hl : p = -10000
        · subst hl
          have eV' : prsF (-10000) v k f s = -10000 := by omega
          clear hB hW eV
          go_wp2_with (first | (go_at_call 14; refine (press_any _ _ _ _ _ _).mono ?_; rintro e w' ⟨rfl, rfl⟩) | (go_at_call 13; refine (sPress_any _ _ _ _ _ _).mono ?_; rintro e w' ⟨rfl, rfl⟩) | (go_at_call 12; refine (contact_any _ _ _ _).mono ?_; rintro e w' ⟨rfl, rfl⟩) | (go_at_call 16; refine (alive_any _).mono ?_; rintro e w' ⟨rfl, rfl⟩))
          all_goals
            go_ret
            exact ⟨rfl, up_of_below (by repeat (first | with_reducible exact Below.refl _ _ | with_reducible apply below_alloc | with_reducible apply below_drw | with_reducible apply below_drew | with_reducible apply below_drewN | with_reducible apply below_plus | with_reducible apply below_set | (simp; done)))⟩
        · have eV' : prsF p v k f s = p - 1 := by omega
          clear hB hW eV
          go_wp2_with (first | (go_at_call 14; refine (press_any _ _ _ _ _ _).mono ?_; rintro e w' ⟨rfl, rfl⟩) | (go_at_call 13; refine (sPress_any _ _ _ _ _ _).mono ?_; rintro e w' ⟨rfl, rfl⟩) | (go_at_call 12; refine (contact_any _ _ _ _).mono ?_; rintro e w' ⟨rfl, rfl⟩) | (go_at_call 16; refine (alive_any _).mono ?_; rintro e w' ⟨rfl, rfl⟩))
          all_goals
            go_ret
            exact ⟨rfl, up_of_below (by repeat (first | with_reducible exact Below.refl _ _ | with_reducible apply below_alloc | with_reducible apply below_drw | with_reducible apply below_drew | with_reducible apply below_drewN | with_reducible apply below_plus | with_reducible apply below_set | (simp; done)))⟩
      · obtain ⟨r1, r2, r3, r4⟩ := prs_on hB hc
        have e1 := contactF_t r3
        generalize hV : prsF p v k f s = V at r1 r2 r3 r4 e1
        clear hB hW r3
        go_wp2_with (first | (go_at_call 14; refine (press_any _ _ _ _ _ _).mono ?_; rintro e w' ⟨rfl, rfl⟩) | (go_at_call 13; refine (sPress_any _ _ _ _ _ _).mono ?_; rintro e w' ⟨rfl, rfl⟩) | (go_at_call 12; refine (contact_any _ _ _ _).mono ?_; rintro e w' ⟨rfl, rfl⟩) | (go_at_call 16; refine (alive_any _).mono ?_; rintro e w' ⟨rfl, rfl⟩))
        all_goals
          go_ret
          exact ⟨rfl, up_of_below (by repeat (first | with_reducible exact Below.refl _ _ | with_reducible apply below_alloc | with_reducible apply below_drw | with_reducible apply below_drew | with_reducible apply below_drewN | with_reducible apply below_plus | with_reducible apply below_set | (simp; done)))⟩
  · go_enter Try.func7, Try.ntmps7
    go_wp2
    go_ret
    exact ⟨rfl, up_of_below (Below.refl _ _)⟩

end Go.Proofs.Ytjklepabliehdaa
