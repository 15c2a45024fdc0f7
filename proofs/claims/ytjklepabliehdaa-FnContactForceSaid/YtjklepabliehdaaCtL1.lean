/-
  The walk of the law on contact forces. No condition.
-/
import Derived.Test.YtjklepabliehdaaCtDraw
namespace Go.Proofs.Ytjklepabliehdaa
open Go.RowKit

/-! ### plain -/
theorem frc_le {p w k : Int} (h : p ≤ w) : frc p w k = 0 := by unfold frc; rw [show max (p - w) 0 = 0 by omega]; omega
theorem frc_up {p w k : Int} (h : w ≤ p) : frc (p + 1) w k = frc p w k + k := by
  unfold frc
  rw [show max (p + 1 - w) 0 = (p - w) + 1 by omega, show max (p - w) 0 = p - w by omega, Int.mul_add]
  omega
theorem wall_next {p w k : Int} (h : wallB p w k = true) (hp : p < 10000) : wallB (p + 1) w k = true := by
  obtain ⟨⟨h1, h2⟩, h3⟩ := wallB_t.1 h
  exact wallB_t.2 ⟨⟨by omega, by omega⟩, h3⟩
theorem wall_end {p w k : Int} (hp : 10000 ≤ p) : wallB (p + 1) w k = false := by
  cases h : wallB (p + 1) w k
  · rfl
  · have := wallB_t.1 h; omega

/-! ### the walk -/
set_option maxHeartbeats 4000000 in
theorem lawContactForce_any (a : Option Addr) (n c : Nat) (w : World) (hb : Bytes w w.heap.size a n) (hnc : n ≤ c) (hcm : c ≤ maxLen) :
    Calls Try.prog 5 #[.slice a n c] w fun e w' => e = .returned (.bool true) ∧ Up w w' := by
  have hmm : c ≤ 9223372036854775807 := by unfold maxLen at hcm; omega
  by_cases hn : n ≤ 1048576
  · go_enter Try.func5, Try.ntmps5
    go_wp2_with (go_at_call 15; refine (drawContactForce_any _ _ _ _ hb hnc hcm).mono ?_; rintro e w1 ⟨p, v, k, hC, rfl, os0, d0, rfl⟩)
    obtain ⟨⟨p1, p2⟩, ⟨v1, v2⟩, k1, k2⟩ := hC
    have u1 : IntKind.i64.wrap k = k := IntWalk.i64_in _ (by omega)
    have u2 : wrap64 k = k := IntWalk.wrap64_in _ (by omega)
    cases hW : wallB p v k
    · have e0 := contactF_f hW
      clear hW
      go_wp2_with (first | (go_at_call 12; refine (contact_any _ _ _ _).mono ?_; rintro e w' ⟨rfl, rfl⟩) | (go_at_call 11; refine (sContact_any _ _ _ _).mono ?_; rintro e w' ⟨rfl, rfl⟩) | (go_at_call 16; refine (alive_any _).mono ?_; rintro e w' ⟨rfl, rfl⟩))
      go_ret
      exact ⟨rfl, up_of_below (by repeat (first | with_reducible exact Below.refl _ _ | with_reducible apply below_alloc | with_reducible apply below_drw | with_reducible apply below_drew | with_reducible apply below_drewN | with_reducible apply below_plus | with_reducible apply below_set | (simp; done)))⟩
    · obtain ⟨⟨q1, q2⟩, ⟨q3, q4⟩, q5, q6⟩ := wallB_t.1 hW
      obtain ⟨b1, b2⟩ := frc_bd q1 q2 q3 q4 q5 q6
      have e0 := contactF_t hW
      by_cases hp : p < 10000
      · have hW' := wall_next hW hp
        have e1 := contactF_t hW'
        rcases Int.lt_trichotomy p v with g | g | g
        · have f0 : frc p v k = 0 := frc_le (by omega)
          have f1 : frc (p + 1) v k = 0 := frc_le (by omega)
          rw [f0] at e0
          rw [f1] at e1
          clear f0 f1 hW hW' b1 b2
          go_wp2_with (first | (go_at_call 12; refine (contact_any _ _ _ _).mono ?_; rintro e w' ⟨rfl, rfl⟩) | (go_at_call 11; refine (sContact_any _ _ _ _).mono ?_; rintro e w' ⟨rfl, rfl⟩) | (go_at_call 16; refine (alive_any _).mono ?_; rintro e w' ⟨rfl, rfl⟩))
          go_ret
          exact ⟨rfl, up_of_below (by repeat (first | with_reducible exact Below.refl _ _ | with_reducible apply below_alloc | with_reducible apply below_drw | with_reducible apply below_drew | with_reducible apply below_drewN | with_reducible apply below_plus | with_reducible apply below_set | (simp; done)))⟩
        · subst g
          have f0 : frc p p k = 0 := frc_le (by omega)
          have f1 : frc (p + 1) p k = k := by rw [frc_up (by omega), f0]; omega
          rw [f0] at e0
          rw [f1] at e1
          clear f0 f1 hW hW' b1 b2
          go_wp2_with (first | (go_at_call 12; refine (contact_any _ _ _ _).mono ?_; rintro e w' ⟨rfl, rfl⟩) | (go_at_call 11; refine (sContact_any _ _ _ _).mono ?_; rintro e w' ⟨rfl, rfl⟩) | (go_at_call 16; refine (alive_any _).mono ?_; rintro e w' ⟨rfl, rfl⟩))
          go_ret
          exact ⟨rfl, up_of_below (by repeat (first | with_reducible exact Below.refl _ _ | with_reducible apply below_alloc | with_reducible apply below_drw | with_reducible apply below_drew | with_reducible apply below_drewN | with_reducible apply below_plus | with_reducible apply below_set | (simp; done)))⟩
        · have f1 : frc (p + 1) v k = frc p v k + k := frc_up (by omega)
          rw [f1] at e1
          have u3 : wrap64 (frc p v k + k) = frc p v k + k := IntWalk.wrap64_in _ (by omega)
          clear f1 hW hW'
          go_wp2_with (first | (go_at_call 12; refine (contact_any _ _ _ _).mono ?_; rintro e w' ⟨rfl, rfl⟩) | (go_at_call 11; refine (sContact_any _ _ _ _).mono ?_; rintro e w' ⟨rfl, rfl⟩) | (go_at_call 16; refine (alive_any _).mono ?_; rintro e w' ⟨rfl, rfl⟩))
          go_ret
          exact ⟨rfl, up_of_below (by repeat (first | with_reducible exact Below.refl _ _ | with_reducible apply below_alloc | with_reducible apply below_drw | with_reducible apply below_drew | with_reducible apply below_drewN | with_reducible apply below_plus | with_reducible apply below_set | (simp; done)))⟩
      · have e1 := contactF_f (wall_end (p := p) (w := v) (k := k) (by omega))
        rcases Int.lt_trichotomy p v with g | g | g
        · omega
        · omega
        · clear hW
          go_wp2_with (first | (go_at_call 12; refine (contact_any _ _ _ _).mono ?_; rintro e w' ⟨rfl, rfl⟩) | (go_at_call 11; refine (sContact_any _ _ _ _).mono ?_; rintro e w' ⟨rfl, rfl⟩) | (go_at_call 16; refine (alive_any _).mono ?_; rintro e w' ⟨rfl, rfl⟩))
          go_ret
          exact ⟨rfl, up_of_below (by repeat (first | with_reducible exact Below.refl _ _ | with_reducible apply below_alloc | with_reducible apply below_drw | with_reducible apply below_drew | with_reducible apply below_drewN | with_reducible apply below_plus | with_reducible apply below_set | (simp; done)))⟩
  · go_enter Try.func5, Try.ntmps5
    go_wp2
    go_ret
    exact ⟨rfl, up_of_below (Below.refl _ _)⟩

end Go.Proofs.Ytjklepabliehdaa
