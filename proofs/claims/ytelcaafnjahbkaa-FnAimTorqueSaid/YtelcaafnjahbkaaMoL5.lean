/-
  The walk of the law on the controller of a motor. No condition.
-/
import Derived.Test.YtelcaafnjahbkaaMoDraw3
import Derived.Test.YtelcaafnjahbkaaMoL2
import Derived.Test.YtelcaafnjahbkaaMo2
namespace Go.Proofs.Ytelcaafnjahbkaa
open Go.RowKit

/-! ### plain -/
theorem aim_valid {a s t k d : Int} (h : motB a s = true) (h' : aimB t k d = true) : aimF a s t k d = aimG a s t k d := by rw [aimF, h, h']; rfl
theorem aimG_bd (a s t k d : Int) : -100 ≤ aimG a s t k d ∧ aimG a s t k d ≤ 100 := clampF_bd (by omega)
theorem clamp_mono {x y lo hi : Int} (h : x ≤ y) : clampF x lo hi ≤ clampF y lo hi := by unfold clampF; omega
theorem aim_rest (t k d : Int) : aimG t 0 t k d = 0 := by
  unfold aimG
  rw [show t - t = 0 by omega, Int.mul_zero, Int.mul_zero]
  decide
theorem aim_stiff {a t k k' d : Int} (h : k ≤ k') : (a ≤ t → aimG a 0 t k d ≤ aimG a 0 t k' d) ∧ (t ≤ a → aimG a 0 t k' d ≤ aimG a 0 t k d) := by
  unfold aimG
  rw [Int.mul_zero]
  refine ⟨fun hat => clamp_mono (Int.ediv_le_ediv (by decide) ?_), fun hta => clamp_mono (Int.ediv_le_ediv (by decide) ?_)⟩
  · have := Int.mul_le_mul_of_nonneg_right h (show 0 ≤ t - a by omega)
    omega
  · have := Int.mul_le_mul_of_nonpos_right h (show t - a ≤ 0 by omega)
    omega

/-! ### the walk -/
set_option maxHeartbeats 8000000 in
theorem lawAimTorque_any (a : Option Addr) (n c : Nat) (w : World) (hb : Bytes w w.heap.size a n) (hnc : n ≤ c) (hcm : c ≤ maxLen) :
    Calls Try.prog 11 #[.slice a n c] w fun e w' => e = .returned (.bool true) ∧ Up w w' := by
  have hmm : c ≤ 9223372036854775807 := by unfold maxLen at hcm; omega
  by_cases hn : n ≤ 1048576
  · go_enter Try.func11, Try.ntmps11
    go_wp2_with (go_at_call 29; refine (drawAimTorque_any _ _ _ _ hb hnc hcm).mono ?_; rintro e w1 ⟨x, y, t, k, d, hM, ⟨⟨t1, t2⟩, ⟨k1, k2⟩, d1, d2⟩, rfl, os0, d0, rfl⟩)
    obtain ⟨⟨m1, m2⟩, m3, m4⟩ := hM
    cases hv : motB x y && aimB t k d
    · have e0 : aimF x y t k d = 0 := by rw [aimF, hv]; rfl
      have hor : motB x y = false ∨ (motB x y = true ∧ (10000 < absF t ∨ (absF t ≤ 10000 ∧ (k < 0 ∨ (0 ≤ k ∧ (64 < k ∨ (k ≤ 64 ∧ (d < 0 ∨ (0 ≤ d ∧ 64 < d))))))))) := by
        cases h1 : motB x y
        · exact .inl rfl
        · refine .inr ⟨rfl, ?_⟩
          have h2 : ¬ aimB t k d = true := by intro h2; rw [h1, h2] at hv; cases hv
          have h3 := mt aimB_t.2 h2
          unfold absF
          omega
      clear hv
      rcases hor with hv | ⟨hv, h | ⟨h3, h | ⟨h4, h | ⟨h5, h | ⟨h6, h⟩⟩⟩⟩⟩
      all_goals
        go_wp2_with (first | (go_at_call 20; refine (aim_any _ _ _ _ _ _).mono ?_; rintro e w1 ⟨rfl, hup⟩; (first | (replace hup := up_join hup) | skip); obtain ⟨os2, dos2, rfl⟩ := hup) | (go_at_call 19; refine (sAim_any _ _ _ _ _ _).mono ?_; rintro e w1 ⟨rfl, hup⟩; (first | (replace hup := up_join hup) | skip); obtain ⟨os2, dos2, rfl⟩ := hup) | (go_at_call 14; refine (sMotorValid_any _ _ _).mono ?_; rintro e w1 ⟨rfl, hup⟩; (first | (replace hup := up_join hup) | skip); obtain ⟨os2, dos2, rfl⟩ := hup) | (go_at_call 27; refine (abs_any _ _ (by omega) (by omega)).mono ?_; rintro e w' ⟨rfl, rfl⟩) | (go_at_call 22; refine (alive_any _).mono ?_; rintro e w' ⟨rfl, rfl⟩))
        go_ret
        exact ⟨rfl, up_of_below (by repeat (first | with_reducible exact Below.refl _ _ | with_reducible apply below_alloc | with_reducible apply below_drw | with_reducible apply below_drew | with_reducible apply below_drewN | with_reducible apply below_plus | with_reducible apply below_set | (simp; done)))⟩
    · have hv' : motB x y = true ∧ aimB t k d = true := by simpa using hv
      obtain ⟨hm, ha⟩ := hv'
      have hmt := motB_t.1 hm
      obtain ⟨⟨t3, t4⟩, ⟨k3, k4⟩, d3, d4⟩ := aimB_t.1 ha
      have e0 := aim_valid hm ha
      have b0 := aimG_bd x y t k d
      obtain ⟨T, hT⟩ : ∃ T, aimF x y t k d = T := ⟨_, rfl⟩
      rw [← e0, hT] at b0
      have f1 : absF T ≤ 100 := by unfold absF; omega
      have f2 : absF t ≤ 10000 := by unfold absF; omega
      have hm0 : motB x 0 = true := motB_t.2 ⟨hmt.1, by omega⟩
      have hmt0 : motB t 0 = true := motB_t.2 ⟨⟨t3, t4⟩, by omega⟩
      have e1 := aim_valid hm0 ha
      have e2 := aim_valid hmt0 ha
      rw [aim_rest] at e2
      obtain ⟨b1, b2⟩ := b0
      have key : ∀ k', k ≤ k' → k' ≤ 64 → (x ≤ t → aimF x 0 t k d ≤ aimF x 0 t k' d) ∧ (t ≤ x → aimF x 0 t k' d ≤ aimF x 0 t k d) := by
        intro k' h1 h2
        have e3 := aim_valid hm0 (aimB_t.2 ⟨⟨t3, t4⟩, ⟨by omega, h2⟩, d3, d4⟩ : aimB t k' d = true)
        rw [e1, e3]
        exact aim_stiff h1
      rcases (show k < 63 ∨ k = 63 ∨ k = 64 by omega) with h64 | h64 | h64
      · obtain ⟨g1, g2⟩ := key (k + 1) (by omega) (by omega)
        have h63 : k + 1 < 64 := by omega
        obtain ⟨V, hV⟩ : ∃ V, aimF x 0 t k d = V := ⟨_, rfl⟩
        obtain ⟨U, hU⟩ : ∃ U, aimF x 0 t (k + 1) d = U := ⟨_, rfl⟩
        rw [hV, hU] at g1 g2
        clear key e0 e1 hv
        rcases Int.lt_trichotomy x t with g | g | g
        · have g3 := g1 (by omega)
          clear g1 g2
          go_wp2_with (first | (go_at_call 20; refine (aim_any _ _ _ _ _ _).mono ?_; rintro e w1 ⟨rfl, hup⟩; (first | (replace hup := up_join hup) | skip); obtain ⟨os2, dos2, rfl⟩ := hup) | (go_at_call 19; refine (sAim_any _ _ _ _ _ _).mono ?_; rintro e w1 ⟨rfl, hup⟩; (first | (replace hup := up_join hup) | skip); obtain ⟨os2, dos2, rfl⟩ := hup) | (go_at_call 14; refine (sMotorValid_any _ _ _).mono ?_; rintro e w1 ⟨rfl, hup⟩; (first | (replace hup := up_join hup) | skip); obtain ⟨os2, dos2, rfl⟩ := hup) | (go_at_call 27; refine (abs_any _ _ (by omega) (by omega)).mono ?_; rintro e w' ⟨rfl, rfl⟩))
          all_goals
            go_ret
            exact ⟨rfl, up_of_below (by repeat (first | with_reducible exact Below.refl _ _ | with_reducible apply below_alloc | with_reducible apply below_drw | with_reducible apply below_drew | with_reducible apply below_drewN | with_reducible apply below_plus | with_reducible apply below_set | (simp; done)))⟩
        · have g3 := g1 (by omega)
          have g4 := g2 (by omega)
          clear g1 g2
          subst g
          have hz : V = 0 := hV.symm.trans e2
          subst hz
          go_wp2_with (first | (go_at_call 20; refine (aim_any _ _ _ _ _ _).mono ?_; rintro e w1 ⟨rfl, hup⟩; (first | (replace hup := up_join hup) | skip); obtain ⟨os2, dos2, rfl⟩ := hup) | (go_at_call 19; refine (sAim_any _ _ _ _ _ _).mono ?_; rintro e w1 ⟨rfl, hup⟩; (first | (replace hup := up_join hup) | skip); obtain ⟨os2, dos2, rfl⟩ := hup) | (go_at_call 14; refine (sMotorValid_any _ _ _).mono ?_; rintro e w1 ⟨rfl, hup⟩; (first | (replace hup := up_join hup) | skip); obtain ⟨os2, dos2, rfl⟩ := hup) | (go_at_call 27; refine (abs_any _ _ (by omega) (by omega)).mono ?_; rintro e w' ⟨rfl, rfl⟩))
          all_goals
            go_ret
            exact ⟨rfl, up_of_below (by repeat (first | with_reducible exact Below.refl _ _ | with_reducible apply below_alloc | with_reducible apply below_drw | with_reducible apply below_drew | with_reducible apply below_drewN | with_reducible apply below_plus | with_reducible apply below_set | (simp; done)))⟩
        · have g4 := g2 (by omega)
          clear g1 g2
          go_wp2_with (first | (go_at_call 20; refine (aim_any _ _ _ _ _ _).mono ?_; rintro e w1 ⟨rfl, hup⟩; (first | (replace hup := up_join hup) | skip); obtain ⟨os2, dos2, rfl⟩ := hup) | (go_at_call 19; refine (sAim_any _ _ _ _ _ _).mono ?_; rintro e w1 ⟨rfl, hup⟩; (first | (replace hup := up_join hup) | skip); obtain ⟨os2, dos2, rfl⟩ := hup) | (go_at_call 14; refine (sMotorValid_any _ _ _).mono ?_; rintro e w1 ⟨rfl, hup⟩; (first | (replace hup := up_join hup) | skip); obtain ⟨os2, dos2, rfl⟩ := hup) | (go_at_call 27; refine (abs_any _ _ (by omega) (by omega)).mono ?_; rintro e w' ⟨rfl, rfl⟩))
          all_goals
            go_ret
            exact ⟨rfl, up_of_below (by repeat (first | with_reducible exact Below.refl _ _ | with_reducible apply below_alloc | with_reducible apply below_drw | with_reducible apply below_drew | with_reducible apply below_drewN | with_reducible apply below_plus | with_reducible apply below_set | (simp; done)))⟩
      · subst h64
        obtain ⟨g1, g2⟩ := key 64 (by omega) (by omega)
        obtain ⟨V, hV⟩ : ∃ V, aimF x 0 t 63 d = V := ⟨_, rfl⟩
        obtain ⟨U, hU⟩ : ∃ U, aimF x 0 t 64 d = U := ⟨_, rfl⟩
        rw [hV, hU] at g1 g2
        clear key e0 e1 hv
        rcases Int.lt_trichotomy x t with g | g | g
        · have g3 := g1 (by omega)
          clear g1 g2
          go_wp2_with (first | (go_at_call 20; refine (aim_any _ _ _ _ _ _).mono ?_; rintro e w1 ⟨rfl, hup⟩; (first | (replace hup := up_join hup) | skip); obtain ⟨os2, dos2, rfl⟩ := hup) | (go_at_call 19; refine (sAim_any _ _ _ _ _ _).mono ?_; rintro e w1 ⟨rfl, hup⟩; (first | (replace hup := up_join hup) | skip); obtain ⟨os2, dos2, rfl⟩ := hup) | (go_at_call 14; refine (sMotorValid_any _ _ _).mono ?_; rintro e w1 ⟨rfl, hup⟩; (first | (replace hup := up_join hup) | skip); obtain ⟨os2, dos2, rfl⟩ := hup) | (go_at_call 27; refine (abs_any _ _ (by omega) (by omega)).mono ?_; rintro e w' ⟨rfl, rfl⟩))
          all_goals
            go_ret
            exact ⟨rfl, up_of_below (by repeat (first | with_reducible exact Below.refl _ _ | with_reducible apply below_alloc | with_reducible apply below_drw | with_reducible apply below_drew | with_reducible apply below_drewN | with_reducible apply below_plus | with_reducible apply below_set | (simp; done)))⟩
        · have g3 := g1 (by omega)
          have g4 := g2 (by omega)
          clear g1 g2
          subst g
          have hz : V = 0 := hV.symm.trans e2
          subst hz
          go_wp2_with (first | (go_at_call 20; refine (aim_any _ _ _ _ _ _).mono ?_; rintro e w1 ⟨rfl, hup⟩; (first | (replace hup := up_join hup) | skip); obtain ⟨os2, dos2, rfl⟩ := hup) | (go_at_call 19; refine (sAim_any _ _ _ _ _ _).mono ?_; rintro e w1 ⟨rfl, hup⟩; (first | (replace hup := up_join hup) | skip); obtain ⟨os2, dos2, rfl⟩ := hup) | (go_at_call 14; refine (sMotorValid_any _ _ _).mono ?_; rintro e w1 ⟨rfl, hup⟩; (first | (replace hup := up_join hup) | skip); obtain ⟨os2, dos2, rfl⟩ := hup) | (go_at_call 27; refine (abs_any _ _ (by omega) (by omega)).mono ?_; rintro e w' ⟨rfl, rfl⟩))
          all_goals
            go_ret
            exact ⟨rfl, up_of_below (by repeat (first | with_reducible exact Below.refl _ _ | with_reducible apply below_alloc | with_reducible apply below_drw | with_reducible apply below_drew | with_reducible apply below_drewN | with_reducible apply below_plus | with_reducible apply below_set | (simp; done)))⟩
        · have g4 := g2 (by omega)
          clear g1 g2
          go_wp2_with (first | (go_at_call 20; refine (aim_any _ _ _ _ _ _).mono ?_; rintro e w1 ⟨rfl, hup⟩; (first | (replace hup := up_join hup) | skip); obtain ⟨os2, dos2, rfl⟩ := hup) | (go_at_call 19; refine (sAim_any _ _ _ _ _ _).mono ?_; rintro e w1 ⟨rfl, hup⟩; (first | (replace hup := up_join hup) | skip); obtain ⟨os2, dos2, rfl⟩ := hup) | (go_at_call 14; refine (sMotorValid_any _ _ _).mono ?_; rintro e w1 ⟨rfl, hup⟩; (first | (replace hup := up_join hup) | skip); obtain ⟨os2, dos2, rfl⟩ := hup) | (go_at_call 27; refine (abs_any _ _ (by omega) (by omega)).mono ?_; rintro e w' ⟨rfl, rfl⟩))
          all_goals
            go_ret
            exact ⟨rfl, up_of_below (by repeat (first | with_reducible exact Below.refl _ _ | with_reducible apply below_alloc | with_reducible apply below_drw | with_reducible apply below_drew | with_reducible apply below_drewN | with_reducible apply below_plus | with_reducible apply below_set | (simp; done)))⟩
      · subst h64
        obtain ⟨V, hV⟩ : ∃ V, aimF x 0 t 64 d = V := ⟨_, rfl⟩
        clear key e0 e1 hv
        rcases Int.lt_trichotomy x t with g | g | g
        · skip
          go_wp2_with (first | (go_at_call 20; refine (aim_any _ _ _ _ _ _).mono ?_; rintro e w1 ⟨rfl, hup⟩; (first | (replace hup := up_join hup) | skip); obtain ⟨os2, dos2, rfl⟩ := hup) | (go_at_call 19; refine (sAim_any _ _ _ _ _ _).mono ?_; rintro e w1 ⟨rfl, hup⟩; (first | (replace hup := up_join hup) | skip); obtain ⟨os2, dos2, rfl⟩ := hup) | (go_at_call 14; refine (sMotorValid_any _ _ _).mono ?_; rintro e w1 ⟨rfl, hup⟩; (first | (replace hup := up_join hup) | skip); obtain ⟨os2, dos2, rfl⟩ := hup) | (go_at_call 27; refine (abs_any _ _ (by omega) (by omega)).mono ?_; rintro e w' ⟨rfl, rfl⟩))
          all_goals
            go_ret
            exact ⟨rfl, up_of_below (by repeat (first | with_reducible exact Below.refl _ _ | with_reducible apply below_alloc | with_reducible apply below_drw | with_reducible apply below_drew | with_reducible apply below_drewN | with_reducible apply below_plus | with_reducible apply below_set | (simp; done)))⟩
        · subst g
          go_wp2_with (first | (go_at_call 20; refine (aim_any _ _ _ _ _ _).mono ?_; rintro e w1 ⟨rfl, hup⟩; (first | (replace hup := up_join hup) | skip); obtain ⟨os2, dos2, rfl⟩ := hup) | (go_at_call 19; refine (sAim_any _ _ _ _ _ _).mono ?_; rintro e w1 ⟨rfl, hup⟩; (first | (replace hup := up_join hup) | skip); obtain ⟨os2, dos2, rfl⟩ := hup) | (go_at_call 14; refine (sMotorValid_any _ _ _).mono ?_; rintro e w1 ⟨rfl, hup⟩; (first | (replace hup := up_join hup) | skip); obtain ⟨os2, dos2, rfl⟩ := hup) | (go_at_call 27; refine (abs_any _ _ (by omega) (by omega)).mono ?_; rintro e w' ⟨rfl, rfl⟩))
          all_goals
            go_ret
            exact ⟨rfl, up_of_below (by repeat (first | with_reducible exact Below.refl _ _ | with_reducible apply below_alloc | with_reducible apply below_drw | with_reducible apply below_drew | with_reducible apply below_drewN | with_reducible apply below_plus | with_reducible apply below_set | (simp; done)))⟩
        · skip
          go_wp2_with (first | (go_at_call 20; refine (aim_any _ _ _ _ _ _).mono ?_; rintro e w1 ⟨rfl, hup⟩; (first | (replace hup := up_join hup) | skip); obtain ⟨os2, dos2, rfl⟩ := hup) | (go_at_call 19; refine (sAim_any _ _ _ _ _ _).mono ?_; rintro e w1 ⟨rfl, hup⟩; (first | (replace hup := up_join hup) | skip); obtain ⟨os2, dos2, rfl⟩ := hup) | (go_at_call 14; refine (sMotorValid_any _ _ _).mono ?_; rintro e w1 ⟨rfl, hup⟩; (first | (replace hup := up_join hup) | skip); obtain ⟨os2, dos2, rfl⟩ := hup) | (go_at_call 27; refine (abs_any _ _ (by omega) (by omega)).mono ?_; rintro e w' ⟨rfl, rfl⟩))
          all_goals
            go_ret
            exact ⟨rfl, up_of_below (by repeat (first | with_reducible exact Below.refl _ _ | with_reducible apply below_alloc | with_reducible apply below_drw | with_reducible apply below_drew | with_reducible apply below_drewN | with_reducible apply below_plus | with_reducible apply below_set | (simp; done)))⟩
  · go_enter Try.func11, Try.ntmps11
    go_wp2
    go_ret
    exact ⟨rfl, up_of_below (Below.refl _ _)⟩

end Go.Proofs.Ytelcaafnjahbkaa
