/-
  The walk of the law on the step of a motor. No condition.
-/
import Derived.Test.YtelcaafnjahbkaaMoL2
namespace Go.Proofs.Ytelcaafnjahbkaa
open Go.RowKit

/-! ### plain -/
theorem spd_neg (s t f : Int) (hf : 0 ≤ f) : spdF (-s) (-t) f = -spdF s t f := by unfold spdF clampF; omega
theorem st_neg (a s t f : Int) (hf : 0 ≤ f) : stA (-a) (-s) (-t) f = -stA a s t f ∧ stS (-a) (-s) (-t) f = -stS a s t f := by
  have h := spd_neg s t f hf
  have e : stA (-a) (-s) (-t) f = -stA a s t f := by unfold stA; rw [h]; unfold clampF; omega
  refine ⟨e, ?_⟩
  unfold stS
  rw [e, h]
  by_cases c : stA a s t f = a + spdF s t f
  · rw [if_pos c, if_pos (by omega)]
  · rw [if_neg c, if_neg (by omega)]; rfl
theorem step_neg {a s t f : Int} (h : stepB a s t f = true) : stepA (-a) (-s) (-t) f = -stepA a s t f ∧ stepS (-a) (-s) (-t) f = -stepS a s t f := by
  have hv := stepB_t.1 h
  have h' : stepB (-a) (-s) (-t) f = true := stepB_t.2 ⟨⟨by omega, by omega⟩, by omega, hv.2.2⟩
  obtain ⟨e1, e2⟩ := step_valid h
  obtain ⟨e3, e4⟩ := step_valid h'
  rw [e1, e2, e3, e4]
  exact st_neg a s t f hv.2.2.1
theorem free_step {a s f : Int} (h : stepB a s 0 f = true) : absF (stepS a s 0 f) ≤ absF s ∧ 0 ≤ stepS a s 0 f * s ∧ stepS a s 0 f * s ≤ 40000 := by
  have hv := stepB_t.1 h
  rw [(step_valid h).2]
  have hcase : stS a s 0 f = 0 ∨ (0 ≤ stS a s 0 f ∧ stS a s 0 f ≤ s) ∨ (s ≤ stS a s 0 f ∧ stS a s 0 f ≤ 0) := by
    unfold stS
    split
    · unfold spdF clampF; omega
    · left; rfl
  generalize stS a s 0 f = v at hcase
  refine ⟨by unfold absF; omega, ?_⟩
  rcases hcase with rfl | ⟨h1, h2⟩ | ⟨h1, h2⟩
  · rw [Int.zero_mul]; omega
  · have := mul_bd (a := v) (b := s) (A := 200) (B := 200) h1 (by omega) (by omega) (by omega)
    have := Int.mul_nonneg h1 (show 0 ≤ s by omega)
    omega
  · have := mul_bd (a := -v) (b := s) (A := 200) (B := 200) (by omega) (by omega) (by omega) (by omega)
    have := Int.mul_nonneg (show 0 ≤ -v by omega) (show 0 ≤ -s by omega)
    rw [Int.neg_mul_neg] at this
    rw [Int.neg_mul] at *
    omega

/-! ### the walk -/
set_option maxHeartbeats 8000000 in
theorem lawMotorStep_any (a : Option Addr) (n c : Nat) (w : World) (hb : Bytes w w.heap.size a n) (hnc : n ≤ c) (hcm : c ≤ maxLen) :
    Calls Try.prog 10 #[.slice a n c] w fun e w' => e = .returned (.bool true) ∧ Up w w' := by
  have hmm : c ≤ 9223372036854775807 := by unfold maxLen at hcm; omega
  by_cases hn : n ≤ 1048576
  · go_enter Try.func10, Try.ntmps10
    go_wp2_with (go_at_call 28; refine (drawMotorStep_any _ _ _ _ hb hnc hcm).mono ?_; rintro e w1 ⟨x, y, t, f, hM, ⟨t1, t2⟩, ⟨f1, f2⟩, rfl, os0, d0, rfl⟩)
    obtain ⟨⟨m1, m2⟩, m3, m4⟩ := hM
    obtain ⟨XA, hXA⟩ : ∃ X, stepA x y t f = X := ⟨_, rfl⟩
    obtain ⟨XS, hXS⟩ : ∃ X, stepS x y t f = X := ⟨_, rfl⟩
    cases hB : stepB x y t f
    · have e0 : stepA x y t f = 0 := by rw [stepA, hB]; rfl
      have e1 : stepS x y t f = 0 := by rw [stepS, hB]; rfl
      obtain rfl : XA = 0 := hXA.symm.trans e0
      obtain rfl : XS = 0 := hXS.symm.trans e1
      have HB := Lib.hid hB
      clear e0 e1 hB
      go_wp2_with (first | (go_at_call 24; refine (motorStep_any _ _ _ _ _).mono ?_; rintro e w1 ⟨rfl, hup⟩; (first | (replace hup := up_join hup) | skip); obtain ⟨os2, dos2, rfl⟩ := hup))
      go_region_held3 (fun W => W.cell? ⟨w.heap.size + os0.size, 0, none⟩ = some (.int .i64 x) ∧ W.cell? ⟨w.heap.size + os0.size, 1, none⟩ = some (.int .i64 y) ∧ W.cell? ⟨w.heap.size + os0.size + 1 + os2.size, 0, none⟩ = some (.int .i64 0) ∧ W.cell? ⟨w.heap.size + os0.size + 1 + os2.size, 1, none⟩ = some (.int .i64 0)) (simp [go_sem]) (first | (go_at_call 23; refine (sMotorStep_any _ _ _ _ _).mono ?_; rintro e w1 ⟨rfl, os, d, rfl⟩))
      all_goals
        clear hXA hXS
        cases hv : motB x y
        · go_wp2_with (first | (go_at_call 14; refine (sMotorValid_any _ _ _).mono ?_; rintro e w1 ⟨rfl, os, d, rfl⟩) | (go_at_call 27; refine (abs_any _ _ (by omega) (by omega)).mono ?_; rintro e w' ⟨rfl, rfl⟩) | (go_at_call 22; refine (alive_any _).mono ?_; rintro e w' ⟨rfl, rfl⟩))
          go_ret
          exact ⟨rfl, up_of_below (by repeat (first | with_reducible exact Below.refl _ _ | with_reducible apply below_alloc | with_reducible apply below_drw | with_reducible apply below_drew | with_reducible apply below_drewN | with_reducible apply below_plus | with_reducible apply below_set | (simp; done)))⟩
        · by_cases ht : 100 < absF t
          · go_wp2_with (first | (go_at_call 14; refine (sMotorValid_any _ _ _).mono ?_; rintro e w1 ⟨rfl, os, d, rfl⟩) | (go_at_call 27; refine (abs_any _ _ (by omega) (by omega)).mono ?_; rintro e w' ⟨rfl, rfl⟩) | (go_at_call 22; refine (alive_any _).mono ?_; rintro e w' ⟨rfl, rfl⟩))
            go_ret
            exact ⟨rfl, up_of_below (by repeat (first | with_reducible exact Below.refl _ _ | with_reducible apply below_alloc | with_reducible apply below_drw | with_reducible apply below_drew | with_reducible apply below_drewN | with_reducible apply below_plus | with_reducible apply below_set | (simp; done)))⟩
          · by_cases hf : f < 0
            · go_wp2_with (first | (go_at_call 14; refine (sMotorValid_any _ _ _).mono ?_; rintro e w1 ⟨rfl, os, d, rfl⟩) | (go_at_call 27; refine (abs_any _ _ (by omega) (by omega)).mono ?_; rintro e w' ⟨rfl, rfl⟩) | (go_at_call 22; refine (alive_any _).mono ?_; rintro e w' ⟨rfl, rfl⟩))
              go_ret
              exact ⟨rfl, up_of_below (by repeat (first | with_reducible exact Below.refl _ _ | with_reducible apply below_alloc | with_reducible apply below_drw | with_reducible apply below_drew | with_reducible apply below_drewN | with_reducible apply below_plus | with_reducible apply below_set | (simp; done)))⟩
            · by_cases hf' : 100 < f
              · go_wp2_with (first | (go_at_call 14; refine (sMotorValid_any _ _ _).mono ?_; rintro e w1 ⟨rfl, os, d, rfl⟩) | (go_at_call 27; refine (abs_any _ _ (by omega) (by omega)).mono ?_; rintro e w' ⟨rfl, rfl⟩) | (go_at_call 22; refine (alive_any _).mono ?_; rintro e w' ⟨rfl, rfl⟩))
                go_ret
                exact ⟨rfl, up_of_below (by repeat (first | with_reducible exact Below.refl _ _ | with_reducible apply below_alloc | with_reducible apply below_drw | with_reducible apply below_drew | with_reducible apply below_drewN | with_reducible apply below_plus | with_reducible apply below_set | (simp; done)))⟩
              · exfalso
                have : stepB x y t f = true := stepB_t.2 ⟨motB_t.1 hv, by unfold absF at ht; omega, by omega, by omega⟩
                rw [HB.out] at this
                cases this
    · have hv := stepB_t.1 hB
      have hM : motB x y = true := motB_t.2 hv.1
      have hE := step_valid hB
      have hXv := st_bd (t := t) (f := f) hM
      rw [← hE.1, ← hE.2, hXA, hXS] at hXv
      obtain ⟨hnA, hnS⟩ := step_neg hB
      rw [hXA] at hnA
      rw [hXS] at hnS
      obtain ⟨r1, r2, r3⟩ := free_step (stepB_t.2 ⟨hv.1, by omega, hv.2.2⟩ : stepB x y 0 f = true)
      obtain ⟨FA, hFA⟩ : ∃ X, stepA x y 0 f = X := ⟨_, rfl⟩
      obtain ⟨Fs, hFS⟩ : ∃ X, stepS x y 0 f = X := ⟨_, rfl⟩
      rw [hFS] at r1 r2 r3
      have ht : absF t ≤ 100 := by unfold absF; omega
      obtain ⟨⟨xa1, xa2⟩, xs1, xs2⟩ := motB_t.1 hXv
      have hFSb : -201 ≤ Fs ∧ Fs ≤ 201 := by unfold absF at r1; omega
      obtain ⟨fs1, fs2⟩ := hFSb
      obtain ⟨_, _, g1, g2⟩ := hv
      have n1 : IntKind.i64.wrap (-x) = -x := IntWalk.i64_in _ (by omega)
      have n2 : IntKind.i64.wrap (-y) = -y := IntWalk.i64_in _ (by omega)
      have n3 : IntKind.i64.wrap (-t) = -t := IntWalk.i64_in _ (by omega)
      have n4 : IntKind.i64.wrap (-XA) = -XA := IntWalk.i64_in _ (by omega)
      have n5 : IntKind.i64.wrap (-XS) = -XS := IntWalk.i64_in _ (by omega)
      have n6 : IntKind.i64.wrap (Fs * y) = Fs * y := IntWalk.i64_in _ (by omega)
      clear hB hE
      go_wp2_with (first | (go_at_call 24; refine (motorStep_any _ _ _ _ _).mono ?_; rintro e w1 ⟨rfl, hup⟩; (first | (replace hup := up_join hup) | skip); obtain ⟨os2, dos2, rfl⟩ := hup))
      go_region_held3 (fun W => W.cell? ⟨w.heap.size + os0.size, 0, none⟩ = some (.int .i64 x) ∧ W.cell? ⟨w.heap.size + os0.size, 1, none⟩ = some (.int .i64 y) ∧ W.cell? ⟨w.heap.size + os0.size + 1 + os2.size, 0, none⟩ = some (.int .i64 XA) ∧ W.cell? ⟨w.heap.size + os0.size + 1 + os2.size, 1, none⟩ = some (.int .i64 XS)) (simp [go_sem]) (first | (go_at_call 23; refine (sMotorStep_any _ _ _ _ _).mono ?_; rintro e w1 ⟨rfl, os, d, rfl⟩))
      go_wp2_with (first | (go_at_call 14; refine (sMotorValid_any _ _ _).mono ?_; rintro e w1 ⟨rfl, hup⟩; (first | (replace hup := up_join hup) | skip); obtain ⟨os3, dos3, rfl⟩ := hup) | (go_at_call 27; refine (abs_any _ _ (by omega) (by omega)).mono ?_; rintro e w' ⟨rfl, rfl⟩))
      refine (motorStep_any _ _ _ _ _).mono ?_
      rintro e w1 ⟨rfl, hup⟩
      replace hup := up_join hup
      obtain ⟨os3, d3, rfl⟩ := hup
      go_wp2_with fail
      refine (motorStep_any _ _ _ _ _).mono ?_
      rintro e w1 ⟨rfl, hup⟩
      obtain ⟨os4, d4, rfl⟩ := hup
      go_wp2_with fail
      go_region_held3 (fun W => W.cell? ⟨w.heap.size + os0.size, 0, none⟩ = some (.int .i64 x) ∧ W.cell? ⟨w.heap.size + os0.size, 1, none⟩ = some (.int .i64 y) ∧ W.cell? ⟨w.heap.size + os0.size + 1 + os2.size, 0, none⟩ = some (.int .i64 XA) ∧ W.cell? ⟨w.heap.size + os0.size + 1 + os2.size, 1, none⟩ = some (.int .i64 XS) ∧ W.cell? ⟨w.heap.size + os0.size + 1 + os2.size + 1 + os3.size, 0, none⟩ = some (.int .i64 (-XA)) ∧ W.cell? ⟨w.heap.size + os0.size + 1 + os2.size + 1 + os3.size, 1, none⟩ = some (.int .i64 (-XS)) ∧ W.cell? ⟨w.heap.size + os0.size + 1 + os2.size + 1 + os3.size + 1 + os4.size, 0, none⟩ = some (.int .i64 FA) ∧ W.cell? ⟨w.heap.size + os0.size + 1 + os2.size + 1 + os3.size + 1 + os4.size, 1, none⟩ = some (.int .i64 Fs)) (simp [go_sem]) (first | (go_at_call 16; refine (motorValid_any _ _ _).mono ?_; rintro e w1 ⟨rfl, os, d, rfl⟩) | (go_at_call 27; refine (abs_any _ _ (by omega) (by omega)).mono ?_; rintro e w' ⟨rfl, rfl⟩))
      all_goals
        go_wp2
        go_ret
        exact ⟨rfl, up_of_below (by repeat (first | with_reducible exact Below.refl _ _ | with_reducible apply below_alloc | with_reducible apply below_drw | with_reducible apply below_drew | with_reducible apply below_drewN | with_reducible apply below_plus | with_reducible apply below_set | (simp; done)))⟩
  · go_enter Try.func10, Try.ntmps10
    go_wp2
    go_ret
    exact ⟨rfl, up_of_below (Below.refl _ _)⟩

end Go.Proofs.Ytelcaafnjahbkaa
