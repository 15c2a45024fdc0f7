/-
  Contracts of the step of a motor (program and reference). Conditions: those that each theorem states.
-/
import Derived.Test.YtelcaafnjahbkaaMo
import Derived.Deep.RegionWith
namespace Go.Proofs.Ytelcaafnjahbkaa
open Go.RowKit

/-- The speed ahead of its bound: three cases. -/
theorem spd_cases (s t f : Int) (hf : 0 ≤ f) : (0 < s + t ∧ 0 < s + t - f ∧ clampF (s + t - f) (-200) 200 = spdF s t f) ∨ (0 < s + t ∧ s + t - f ≤ 0 ∧ clampF 0 (-200) 200 = spdF s t f) ∨
    (s + t ≤ 0 ∧ s + t + f < 0 ∧ clampF (s + t + f) (-200) 200 = spdF s t f) ∨ (s + t ≤ 0 ∧ 0 ≤ s + t + f ∧ clampF 0 (-200) 200 = spdF s t f) := by
  unfold spdF
  have e1 : 0 < s + t → 0 < s + t - f → s + t - clampF (s + t) (-f) f = s + t - f := by intro h1 h2; unfold clampF; omega
  have e2 : 0 < s + t → s + t - f ≤ 0 → s + t - clampF (s + t) (-f) f = 0 := by intro h1 h2; unfold clampF; omega
  have e3 : s + t ≤ 0 → s + t + f < 0 → s + t - clampF (s + t) (-f) f = s + t + f := by intro h1 h2; unfold clampF; omega
  have e4 : s + t ≤ 0 → 0 ≤ s + t + f → s + t - clampF (s + t) (-f) f = 0 := by intro h1 h2; unfold clampF; omega
  rcases Int.lt_or_le 0 (s + t) with c | c
  · rcases Int.lt_or_le 0 (s + t - f) with c' | c'
    · exact .inl ⟨c, c', by rw [e1 c c']⟩
    · exact .inr (.inl ⟨c, c', by rw [e2 c c']⟩)
  · rcases Int.lt_or_le (s + t + f) 0 with c' | c'
    · exact .inr (.inr (.inl ⟨c, c', by rw [e3 c c']⟩))
    · exact .inr (.inr (.inr ⟨c, c', by rw [e4 c c']⟩))
theorem spd_bd (s t f : Int) : -200 ≤ spdF s t f ∧ spdF s t f ≤ 200 := clampF_bd (by omega)
theorem stA_out {a s t f : Int} (h : inB (a + spdF s t f) (-10000) 10000 = false) : stA a s t f ≠ a + spdF s t f ∧ stS a s t f = 0 := by
  have h := inB_f.1 h
  have e : stA a s t f ≠ a + spdF s t f := by unfold stA clampF; omega
  exact ⟨e, by unfold stS; rw [if_neg e]⟩
theorem stA_in {a s t f : Int} (h : inB (a + spdF s t f) (-10000) 10000 = true) : stA a s t f = a + spdF s t f ∧ stS a s t f = spdF s t f := by
  have h := inB_t.1 h
  have e : stA a s t f = a + spdF s t f := by unfold stA clampF; omega
  exact ⟨e, by unfold stS; rw [if_pos e]⟩
theorem ret_agg2 {a b c d : Int} (h : a = b) (h' : c = d) : Ending.returned (.agg #[.int .i64 a, .int .i64 c]) = .returned (.agg #[.int .i64 b, .int .i64 d]) := by rw [h, h']

set_option maxHeartbeats 1000000 in
theorem l14Step_any (a s t f : Int) (w : World) (h : stepB a s t f = true) :
    Calls Try.prog 47 #[.agg #[.int .i64 a, .int .i64 s], .int .i64 t, .int .i64 f] w fun e w' => e = .returned (.agg #[.int .i64 (stA a s t f), .int .i64 (stS a s t f)]) ∧ Up w w' := by
  obtain ⟨⟨⟨a1, a2⟩, a3, a4⟩, ⟨t1, t2⟩, f1, f2⟩ := stepB_t.1 h
  clear h
  obtain ⟨sb1, sb2⟩ := spd_bd s t f
  cases hB : inB (a + spdF s t f) (-10000) 10000
  · have E1 := Lib.hid (stA_out hB).2
    rcases spd_cases s t f f1 with ⟨c1, c2, c3⟩ | ⟨c1, c2, c3⟩ | ⟨c1, c2, c3⟩ | ⟨c1, c2, c3⟩ <;>
    · go_enter Try.func47, Try.ntmps47
      go_wp2_with (first | (go_at_call 39; refine (l1Clip_any _ _ _ _).mono ?_; rintro e w' ⟨rfl, rfl⟩) | (go_at_call 37; refine (l1In_any _ _ _ _).mono ?_; rintro e w' ⟨rfl, rfl⟩))
      refine bodyPost_ret (v := .agg #[.int .i64 (clampF (a + spdF s t f) (-10000) 10000), .int .i64 0]) (by simp [results, Try.results47, go_sem]) rfl ⟨ret_agg2 rfl E1.out.symm, up_of_below ?_⟩
      repeat (first | with_reducible exact Below.refl _ _ | with_reducible apply below_alloc | with_reducible apply below_drw | with_reducible apply below_drew | with_reducible apply below_drewN | with_reducible apply below_plus | with_reducible apply below_set | (simp; done))
  · have E1 := Lib.hid (stA_in hB)
    rcases spd_cases s t f f1 with ⟨c1, c2, c3⟩ | ⟨c1, c2, c3⟩ | ⟨c1, c2, c3⟩ | ⟨c1, c2, c3⟩ <;>
    · go_enter Try.func47, Try.ntmps47
      go_wp2_with (first | (go_at_call 39; refine (l1Clip_any _ _ _ _).mono ?_; rintro e w' ⟨rfl, rfl⟩) | (go_at_call 37; refine (l1In_any _ _ _ _).mono ?_; rintro e w' ⟨rfl, rfl⟩))
      refine bodyPost_ret (v := .agg #[.int .i64 (a + spdF s t f), .int .i64 (spdF s t f)]) (by simp [results, Try.results47, go_sem]) rfl ⟨ret_agg2 E1.out.1.symm E1.out.2.symm, up_of_below ?_⟩
      repeat (first | with_reducible exact Below.refl _ _ | with_reducible apply below_alloc | with_reducible apply below_drw | with_reducible apply below_drew | with_reducible apply below_drewN | with_reducible apply below_plus | with_reducible apply below_set | (simp; done))

theorem stepB_eq {a s t f : Int} : stepB a s t f = (motB a s && (inB t (-100) 100 && inB f 0 100)) := rfl

set_option maxHeartbeats 1000000 in
theorem sMotorStep_any (a s t f : Int) (w : World) :
    Calls Try.prog 23 #[.agg #[.int .i64 a, .int .i64 s], .int .i64 t, .int .i64 f] w fun e w' => e = .returned (.agg #[.int .i64 (stepA a s t f), .int .i64 (stepS a s t f)]) ∧ Up w w' := by
  cases h1 : motB a s <;> cases h2 : inB t (-100) 100 <;> cases h3 : inB f 0 100
  case true.true.true =>
    have hB : stepB a s t f = true := by rw [stepB, h1, h2, h3]; rfl
    have HA : Hid (stepA a s t f = stA a s t f) := by show stepA a s t f = _; rw [stepA, if_pos hB]
    have HS : Hid (stepS a s t f = stS a s t f) := by show stepS a s t f = _; rw [stepS, if_pos hB]
    have HB := Lib.hid hB
    clear hB
    go_enter Try.func23, Try.ntmps23
    go_wp2_with (first | (go_at_call 14; refine (sMotorValid_any _ _ _).mono ?_; rintro e w1 ⟨rfl, os, d, rfl⟩) | (go_at_call 37; refine (l1In_any _ _ _ _).mono ?_; rintro e w' ⟨rfl, rfl⟩) | (go_at_call 47; refine (l14Step_any _ _ _ _ _ HB.out).mono ?_; rintro e w1 ⟨rfl, os, d, rfl⟩))
    refine bodyPost_ret (v := .agg #[.int .i64 (stA a s t f), .int .i64 (stS a s t f)]) (by simp [results, Try.results23, go_sem]) rfl ⟨ret_agg2 HA.out.symm HS.out.symm, up_of_below ?_⟩
    repeat (first | with_reducible exact Below.refl _ _ | with_reducible apply below_alloc | with_reducible apply below_drw | with_reducible apply below_drew | with_reducible apply below_drewN | with_reducible apply below_plus | with_reducible apply below_set | (simp; done))
  all_goals
    have hB : stepB a s t f = false := by rw [stepB, h1, h2, h3]; rfl
    have HA : Hid (stepA a s t f = 0) := by show stepA a s t f = _; rw [stepA, hB]; rfl
    have HS : Hid (stepS a s t f = 0) := by show stepS a s t f = _; rw [stepS, hB]; rfl
    clear hB
    go_enter Try.func23, Try.ntmps23
    go_wp2_with (first | (go_at_call 14; refine (sMotorValid_any _ _ _).mono ?_; rintro e w1 ⟨rfl, os, d, rfl⟩) | (go_at_call 37; refine (l1In_any _ _ _ _).mono ?_; rintro e w' ⟨rfl, rfl⟩))
    refine bodyPost_ret (v := .agg #[.int .i64 0, .int .i64 0]) (by simp [results, Try.results23, go_sem]) rfl ⟨ret_agg2 HA.out.symm HS.out.symm, up_of_below ?_⟩
    repeat (first | with_reducible exact Below.refl _ _ | with_reducible apply below_alloc | with_reducible apply below_drw | with_reducible apply below_drew | with_reducible apply below_drewN | with_reducible apply below_plus | with_reducible apply below_set | (simp; done))

set_option maxHeartbeats 2000000 in
theorem motorStep_any (a s t f : Int) (w : World) :
    Calls Try.prog 24 #[.agg #[.int .i64 a, .int .i64 s], .int .i64 t, .int .i64 f] w fun e w' => e = .returned (.agg #[.int .i64 (stepA a s t f), .int .i64 (stepS a s t f)]) ∧ Up w w' := by
  cases h1 : motB a s <;> cases h2 : inB t (-100) 100 <;> cases h3 : inB f 0 100
  case true.true.true =>
    have hB : stepB a s t f = true := by rw [stepB, h1, h2, h3]; rfl
    have HA : Hid (stepA a s t f = stA a s t f) := by show stepA a s t f = _; rw [stepA, if_pos hB]
    have HS : Hid (stepS a s t f = stS a s t f) := by show stepS a s t f = _; rw [stepS, if_pos hB]
    obtain ⟨⟨⟨a1, a2⟩, a3, a4⟩, ⟨t1, t2⟩, f1, f2⟩ := stepB_t.1 hB
    clear hB
    obtain ⟨sb1, sb2⟩ := spd_bd s t f
    have cb : -f ≤ clampF (s + t) (-f) f ∧ clampF (s + t) (-f) f ≤ f := clampF_bd (by omega)
    obtain ⟨cb1, cb2⟩ := cb
    have E : clampF (s + t - clampF (s + t) (-f) f) (-200) 200 = spdF s t f := rfl
    have n1 : IntKind.i64.wrap (-f) = -f := IntWalk.i64_in _ (by omega)
    cases hB : inB (a + spdF s t f) (-10000) 10000
    · have E1 := Lib.hid (stA_out hB).2
      have E2 : clampF (a + spdF s t f) (-10000) 10000 = stA a s t f := rfl
      have E3 : (stA a s t f != a + spdF s t f) = true := by rw [bne_iff_ne]; exact (stA_out hB).1
      clear hB
      go_enter Try.func24, Try.ntmps24
      go_wp2_with (first | (go_at_call 16; refine (motorValid_any _ _ _).mono ?_; rintro e w1 ⟨rfl, os, d, rfl⟩) | (go_at_call 38; refine (within_any _ _ _ _).mono ?_; rintro e w' ⟨rfl, rfl⟩) | (go_at_call 40; refine (clamp_any _ _ _ _).mono ?_; rintro e w' ⟨rfl, rfl⟩))
      go_region_with (go_at_call 40; refine (clamp_any _ _ _ _).mono ?_; rintro e w' ⟨rfl, rfl⟩)
      all_goals
        go_wp2_with (go_at_call 40; refine (clamp_any _ _ _ _).mono ?_; rintro e w' ⟨rfl, rfl⟩)
        refine bodyPost_ret (v := .agg #[.int .i64 (stA a s t f), .int .i64 0]) (by simp [results, Try.results24, go_sem]) rfl ⟨ret_agg2 HA.out.symm (E1.out.symm.trans HS.out.symm), up_of_below ?_⟩
        repeat (first | with_reducible exact Below.refl _ _ | with_reducible apply below_alloc | with_reducible apply below_drw | with_reducible apply below_drew | with_reducible apply below_drewN | with_reducible apply below_plus | with_reducible apply below_set | (simp; done))
    · have E1 := Lib.hid (stA_in hB)
      have E2 : clampF (a + spdF s t f) (-10000) 10000 = a + spdF s t f := (stA_in hB).1
      clear hB
      go_enter Try.func24, Try.ntmps24
      go_wp2_with (first | (go_at_call 16; refine (motorValid_any _ _ _).mono ?_; rintro e w1 ⟨rfl, os, d, rfl⟩) | (go_at_call 38; refine (within_any _ _ _ _).mono ?_; rintro e w' ⟨rfl, rfl⟩) | (go_at_call 40; refine (clamp_any _ _ _ _).mono ?_; rintro e w' ⟨rfl, rfl⟩))
      go_region_with (go_at_call 40; refine (clamp_any _ _ _ _).mono ?_; rintro e w' ⟨rfl, rfl⟩)
      all_goals
        go_wp2_with (go_at_call 40; refine (clamp_any _ _ _ _).mono ?_; rintro e w' ⟨rfl, rfl⟩)
        refine bodyPost_ret (v := .agg #[.int .i64 (a + spdF s t f), .int .i64 (spdF s t f)]) (by simp [results, Try.results24, go_sem]) rfl ⟨ret_agg2 (E1.out.1.symm.trans HA.out.symm) (E1.out.2.symm.trans HS.out.symm), up_of_below ?_⟩
        repeat (first | with_reducible exact Below.refl _ _ | with_reducible apply below_alloc | with_reducible apply below_drw | with_reducible apply below_drew | with_reducible apply below_drewN | with_reducible apply below_plus | with_reducible apply below_set | (simp; done))
  all_goals
    have hB : stepB a s t f = false := by rw [stepB, h1, h2, h3]; rfl
    have HA : Hid (stepA a s t f = 0) := by show stepA a s t f = _; rw [stepA, hB]; rfl
    have HS : Hid (stepS a s t f = 0) := by show stepS a s t f = _; rw [stepS, hB]; rfl
    clear hB
    go_enter Try.func24, Try.ntmps24
    go_wp2_with (first | (go_at_call 16; refine (motorValid_any _ _ _).mono ?_; rintro e w1 ⟨rfl, os, d, rfl⟩) | (go_at_call 38; refine (within_any _ _ _ _).mono ?_; rintro e w' ⟨rfl, rfl⟩))
    refine bodyPost_ret (v := .agg #[.int .i64 0, .int .i64 0]) (by simp [results, Try.results24, go_sem]) rfl ⟨ret_agg2 HA.out.symm HS.out.symm, up_of_below ?_⟩
    repeat (first | with_reducible exact Below.refl _ _ | with_reducible apply below_alloc | with_reducible apply below_drw | with_reducible apply below_drew | with_reducible apply below_drewN | with_reducible apply below_plus | with_reducible apply below_set | (simp; done))

set_option maxHeartbeats 400000 in
theorem exactMotorStep_any (x y t f : Int) (w : World) :
    Calls Try.prog 7 #[.agg #[.int .i64 x, .int .i64 y], .int .i64 t, .int .i64 f] w fun e w' => e = .returned (.bool true) ∧ Up w w' := by
  go_enter Try.func7, Try.ntmps7
  go_wp2_with (first | (go_at_call 15; refine (toMotor_any _ _ _).mono ?_; rintro e w1 ⟨rfl, os, d, rfl⟩) | (go_at_call 23; refine (sMotorStep_any _ _ _ _ _).mono ?_; rintro e w1 ⟨rfl, os, d, rfl⟩) | (go_at_call 24; refine (motorStep_any _ _ _ _ _).mono ?_; rintro e w1 ⟨rfl, os, d, rfl⟩) | (go_at_call 25; refine (eqMotor_any _ _ _ _ _ rfl rfl).mono ?_; rintro e w1 ⟨rfl, os, d, rfl⟩))
  go_ret
  exact ⟨rfl, up_of_below (by repeat (first | with_reducible exact Below.refl _ _ | with_reducible apply below_alloc | with_reducible apply below_drw | with_reducible apply below_drew | with_reducible apply below_drewN | with_reducible apply below_plus | with_reducible apply below_set | (simp; done)))⟩

end Go.Proofs.Ytelcaafnjahbkaa
