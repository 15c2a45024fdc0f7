/-
  The walks of the laws on brakes and on motors that come to rest. No condition.
-/
import Derived.Test.YtelcaafnjahbkaaMoDraw2
import Derived.Test.YtelcaafnjahbkaaAbsF
import Derived.Deep.RegionHeld3
namespace Go.Proofs.Ytelcaafnjahbkaa
open Go.RowKit

theorem up_join {w w' : World} {os : Array Obj} {d : Nat} (h : Up (plus w os d) w') : Up w w' := by
  obtain ⟨os', d', rfl⟩ := h
  exact ⟨os ++ os', d', plus_plus _ _⟩

/-! ### plain -/
theorem st_bd {a s t f : Int} (h : motB a s = true) : motB (stA a s t f) (stS a s t f) = true := by
  have h := motB_t.1 h
  obtain ⟨b1, b2⟩ := spd_bd s t f
  refine motB_t.2 ⟨?_, ?_⟩
  · unfold stA clampF; omega
  · unfold stS; split <;> omega
theorem step_valid {a s t f : Int} (h : stepB a s t f = true) : stepA a s t f = stA a s t f ∧ stepS a s t f = stS a s t f := ⟨by rw [stepA, if_pos h], by rw [stepS, if_pos h]⟩
theorem brake_step {a s : Int} (h : motB a s = true) : motB (stepA a s (brakeF a s) 0) (stepS a s (brakeF a s) 0) = true ∧ (stepS a s (brakeF a s) 0 = 0 ∨ (100 < s ∧ stepS a s (brakeF a s) 0 = s - 100) ∨ (s < -100 ∧ stepS a s (brakeF a s) 0 = s + 100)) := by
  have hv := motB_t.1 h
  have hb : brakeF a s = clampF (-s) (-100) 100 := by rw [brakeF, if_pos h]
  have ht : -100 ≤ brakeF a s ∧ brakeF a s ≤ 100 := by rw [hb]; exact clampF_bd (by omega)
  obtain ⟨e1, e2⟩ := step_valid (stepB_t.2 ⟨hv, ht, by omega, by omega⟩ : stepB a s (brakeF a s) 0 = true)
  rw [e1, e2]
  refine ⟨st_bd h, ?_⟩
  unfold stS
  split
  · rw [hb]; unfold spdF clampF; omega
  · left; rfl
theorem brake_two {a s : Int} (h : motB a s = true) : stepS (stepA a s (brakeF a s) 0) (stepS a s (brakeF a s) 0) (brakeF (stepA a s (brakeF a s) 0) (stepS a s (brakeF a s) 0)) 0 = 0 := by
  obtain ⟨h1, h2⟩ := brake_step h
  have h3 := (brake_step h1).2
  have hv := motB_t.1 h
  omega
theorem brake_opp {a s : Int} (h : motB a s = true) : (-100 ≤ brakeF a s ∧ brakeF a s ≤ 100) ∧ -20000 ≤ brakeF a s * s ∧ brakeF a s * s ≤ 0 := by
  have hv := motB_t.1 h
  have hb : brakeF a s = clampF (-s) (-100) 100 := by rw [brakeF, if_pos h]
  have ht : -100 ≤ brakeF a s ∧ brakeF a s ≤ 100 := by rw [hb]; exact clampF_bd (by omega)
  refine ⟨ht, ?_⟩
  rcases Int.lt_or_le s 0 with c | c
  · have h0 : 0 ≤ brakeF a s := by rw [hb]; unfold clampF; omega
    have := mul_bd (a := brakeF a s) (b := s) (A := 100) (B := 200) h0 ht.2 (by omega) (by omega)
    have := Int.mul_nonpos_of_nonneg_of_nonpos h0 (show s ≤ 0 by omega)
    omega
  · have h0 : 0 ≤ -brakeF a s := by rw [hb]; unfold clampF; omega
    have := mul_bd (a := -brakeF a s) (b := s) (A := 100) (B := 200) h0 (by omega) (by omega) (by omega)
    have := Int.mul_nonneg h0 c
    rw [Int.neg_mul] at *
    omega
theorem rest_step {a s : Int} (h : motB a s = true) : motB (stepA a s 0 1) (stepS a s 0 1) = true ∧ absF (stepS a s 0 1) ≤ max (absF s - 1) 0 := by
  have hv := motB_t.1 h
  obtain ⟨e1, e2⟩ := step_valid (stepB_t.2 ⟨hv, by omega, by omega, by omega⟩ : stepB a s 0 1 = true)
  rw [e1, e2]
  refine ⟨st_bd h, ?_⟩
  unfold stS
  split
  · unfold absF spdF clampF; omega
  · unfold absF; omega

/-! ### the walks -/
set_option maxHeartbeats 4000000 in
theorem lawBrakeTorque_any (a : Option Addr) (n c : Nat) (w : World) (hb : Bytes w w.heap.size a n) (hnc : n ≤ c) (hcm : c ≤ maxLen) :
    Calls Try.prog 8 #[.slice a n c] w fun e w' => e = .returned (.bool true) ∧ Up w w' := by
  have hmm : c ≤ 9223372036854775807 := by unfold maxLen at hcm; omega
  by_cases hn : n ≤ 1048576
  · go_enter Try.func8, Try.ntmps8
    go_wp2_with (go_at_call 26; refine (drawBrakeTorque_any _ _ _ _ hb hnc hcm).mono ?_; rintro e w1 ⟨x, y, hM, rfl, os0, d0, rfl⟩)
    obtain ⟨⟨m1, m2⟩, m3, m4⟩ := hM
    cases hv : motB x y
    · have e0 : brakeF x y = 0 := by rw [brakeF, hv]; rfl
      go_wp2_with (first | (go_at_call 18; refine (brake_any _ _ _).mono ?_; rintro e w1 ⟨rfl, hup⟩; (first | (replace hup := up_join hup) | skip); obtain ⟨os2, dos2, rfl⟩ := hup) | (go_at_call 17; refine (sBrake_any _ _ _).mono ?_; rintro e w1 ⟨rfl, hup⟩; (first | (replace hup := up_join hup) | skip); obtain ⟨os2, dos2, rfl⟩ := hup) | (go_at_call 14; refine (sMotorValid_any _ _ _).mono ?_; rintro e w1 ⟨rfl, hup⟩; (first | (replace hup := up_join hup) | skip); obtain ⟨os2, dos2, rfl⟩ := hup) | (go_at_call 22; refine (alive_any _).mono ?_; rintro e w' ⟨rfl, rfl⟩))
      go_ret
      exact ⟨rfl, up_of_below (by repeat (first | with_reducible exact Below.refl _ _ | with_reducible apply below_alloc | with_reducible apply below_drw | with_reducible apply below_drew | with_reducible apply below_drewN | with_reducible apply below_plus | with_reducible apply below_set | (simp; done)))⟩
    · have h1 := brake_two hv
      obtain ⟨⟨t1, t2⟩, p1, p2⟩ := brake_opp hv
      obtain ⟨T, hT⟩ : ∃ T, brakeF x y = T := ⟨_, rfl⟩
      rw [hT] at h1 t1 t2 p1 p2
      have f1 : absF T ≤ 100 := by unfold absF; omega
      obtain ⟨XA, hXA⟩ : ∃ X, stepA x y T 0 = X := ⟨_, rfl⟩
      obtain ⟨XS, hXS⟩ : ∃ X, stepS x y T 0 = X := ⟨_, rfl⟩
      rw [hXA, hXS] at h1
      go_wp2_with (first | (go_at_call 18; refine (brake_any _ _ _).mono ?_; rintro e w1 ⟨rfl, hup⟩; (first | (replace hup := up_join hup) | skip); obtain ⟨os2, dos2, rfl⟩ := hup) | (go_at_call 17; refine (sBrake_any _ _ _).mono ?_; rintro e w1 ⟨rfl, hup⟩; (first | (replace hup := up_join hup) | skip); obtain ⟨os2, dos2, rfl⟩ := hup) | (go_at_call 14; refine (sMotorValid_any _ _ _).mono ?_; rintro e w1 ⟨rfl, hup⟩; (first | (replace hup := up_join hup) | skip); obtain ⟨os2, dos2, rfl⟩ := hup) | (go_at_call 24; refine (motorStep_any _ _ _ _ _).mono ?_; rintro e w1 ⟨rfl, hup⟩; (first | (replace hup := up_join hup) | skip); obtain ⟨os2, dos2, rfl⟩ := hup))
      go_region_held3 (fun W => W.cell? ⟨w.heap.size + os0.size, 0, none⟩ = some (.int .i64 x) ∧ W.cell? ⟨w.heap.size + os0.size, 1, none⟩ = some (.int .i64 y) ∧ W.cell? ⟨w.heap.size + os0.size + 1 + os2.size, 0, none⟩ = some (.int .i64 XA) ∧ W.cell? ⟨w.heap.size + os0.size + 1 + os2.size, 1, none⟩ = some (.int .i64 XS)) (simp [go_sem]) (first | (go_at_call 18; refine (brake_any _ _ _).mono ?_; rintro e w1 ⟨rfl, os, d, rfl⟩) | (go_at_call 24; refine (motorStep_any _ _ _ _ _).mono ?_; rintro e w1 ⟨rfl, os, d, rfl⟩))
      all_goals
        go_wp2_with (first | (go_at_call 27; refine (abs_any _ _ (by omega) (by omega)).mono ?_; rintro e w' ⟨rfl, rfl⟩))
        go_ret
        exact ⟨rfl, up_of_below (by repeat (first | with_reducible exact Below.refl _ _ | with_reducible apply below_alloc | with_reducible apply below_drw | with_reducible apply below_drew | with_reducible apply below_drewN | with_reducible apply below_plus | with_reducible apply below_set | (simp; done)))⟩
  · go_enter Try.func8, Try.ntmps8
    go_wp2
    go_ret
    exact ⟨rfl, up_of_below (Below.refl _ _)⟩

end Go.Proofs.Ytelcaafnjahbkaa
