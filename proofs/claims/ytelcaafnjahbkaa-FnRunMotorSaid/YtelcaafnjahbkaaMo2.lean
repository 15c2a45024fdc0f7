/-
  Contracts of the controller and of the step of a motor (program and reference). Conditions: those that each theorem states.
-/
import Derived.Test.YtelcaafnjahbkaaMo
namespace Go.Proofs.Ytelcaafnjahbkaa
open Go.RowKit

theorem aim_bd {a s t k d : Int} (h : motB a s = true) (h' : aimB t k d = true) : (-20000 ≤ t - a ∧ t - a ≤ 20000) ∧ (-1280000 ≤ k * (t - a) ∧ k * (t - a) ≤ 1280000) ∧ (-12800 ≤ d * s ∧ d * s ≤ 12800) := by
  obtain ⟨⟨a1, a2⟩, a3, a4⟩ := motB_t.1 h
  obtain ⟨⟨b1, b2⟩, ⟨b3, b4⟩, b5, b6⟩ := aimB_t.1 h'
  have h1 := mul_bd (a := k) (b := t - a) (A := 64) (B := 20000) b3 b4 (by omega) (by omega)
  have h2 := mul_bd (a := d) (b := s) (A := 64) (B := 200) b5 b6 (by omega) (by omega)
  omega

set_option maxHeartbeats 400000 in
theorem aimFits_any (x y q : Int) (w : World) :
    Calls Try.prog 42 #[.int .i64 x, .int .i64 y, .int .i64 q] w fun e w' => e = .returned (.bool (aimB x y q)) ∧ w = w' := by
  cases h1 : inB x (-10000) 10000 <;> cases h2 : inB y 0 64 <;> cases h3 : inB q 0 64 <;>
  · obtain ⟨b, KB⟩ : ∃ b, b = aimB x y q := ⟨_, rfl⟩
    have KV := KB
    rw [aimB, h1, h2, h3] at KV
    subst KV
    have KK := Lib.hid KB
    clear KB
    go_enter Try.func42, Try.ntmps42
    go_wp2_with (go_at_call 38; refine (within_any _ _ _ _).mono ?_; rintro e w' ⟨rfl, rfl⟩)
    go_ret
    exact ⟨ret_bool KK.out, rfl⟩

set_option maxHeartbeats 400000 in
theorem l14Aim_any (a s t k d : Int) (w : World) (h : motB a s = true) (h' : aimB t k d = true) :
    Calls Try.prog 41 #[.agg #[.int .i64 a, .int .i64 s], .int .i64 t, .int .i64 k, .int .i64 d] w fun e w' => e = .returned (.int .i64 (aimG a s t k d)) ∧ Up w w' := by
  obtain ⟨⟨x1, x2⟩, ⟨x3, x4⟩, x5, x6⟩ := aim_bd h h'
  obtain ⟨⟨a1, a2⟩, a3, a4⟩ := motB_t.1 h
  clear h h'
  go_enter Try.func41, Try.ntmps41
  go_wp2_with (first | (go_at_call 50; refine (l1Floor_any _ _ _ (by omega) (by omega) (by omega) (by omega)).mono ?_; rintro e w' ⟨rfl, rfl⟩) | (go_at_call 39; refine (l1Clip_any _ _ _ _).mono ?_; rintro e w' ⟨rfl, rfl⟩))
  go_ret
  exact ⟨rfl, up_of_below (by repeat (first | with_reducible exact Below.refl _ _ | with_reducible apply below_alloc | with_reducible apply below_drw | with_reducible apply below_drew | with_reducible apply below_drewN | with_reducible apply below_plus | with_reducible apply below_set | (simp; done)))⟩

set_option maxHeartbeats 1000000 in
theorem aim_any (a s t k d : Int) (w : World) :
    Calls Try.prog 20 #[.agg #[.int .i64 a, .int .i64 s], .int .i64 t, .int .i64 k, .int .i64 d] w fun e w' => e = .returned (.int .i64 (aimF a s t k d)) ∧ Up w w' := by
  obtain ⟨V, hV⟩ : ∃ V, V = aimF a s t k d := ⟨_, rfl⟩
  rw [← hV]
  cases h1 : motB a s <;> cases h2 : aimB t k d
  case true.true =>
    rw [aimF, h1, h2, if_pos (by decide)] at hV
    have HV := Lib.hid hV
    clear hV
    obtain ⟨⟨x1, x2⟩, ⟨x3, x4⟩, x5, x6⟩ := aim_bd h1 h2
    have c1 := (aimB_t.1 h2).1
    have c2 := (aimB_t.1 h2).2.1
    have c3 := (aimB_t.1 h2).2.2
    have i1 := inB_t.2 c1
    have i2 := inB_t.2 c2
    have i3 := inB_t.2 c3
    have H1 := Lib.hid h1
    have H2 := Lib.hid h2
    clear c1 c2 c3
    go_enter Try.func20, Try.ntmps20
    go_wp2_with (first | (go_at_call 16; refine (motorValid_any _ _ _).mono ?_; rintro e w1 ⟨rfl, os, d, rfl⟩) | (go_at_call 42; refine (aimFits_any _ _ _ _).mono ?_; rintro e w' ⟨rfl, rfl⟩) | (go_at_call 43; refine (floor_any _ _ _ (by omega) (by omega) (by omega) (by omega)).mono ?_; rintro e w' ⟨rfl, rfl⟩) | (go_at_call 40; refine (clamp_any _ _ _ _).mono ?_; rintro e w' ⟨rfl, rfl⟩))
    go_ret
    exact ⟨ret_i64 HV.out.symm, up_of_below (by repeat (first | with_reducible exact Below.refl _ _ | with_reducible apply below_alloc | with_reducible apply below_drw | with_reducible apply below_drew | with_reducible apply below_drewN | with_reducible apply below_plus | with_reducible apply below_set | (simp; done)))⟩
  case true.false =>
    have hn : ¬ ((inB t (-10000) 10000 && (inB k 0 64 && inB d 0 64)) = true) := by intro hh; rw [aimB, hh] at h2; exact absurd h2 (by decide)
    rw [aimF, h1, h2, if_neg (by decide)] at hV
    have HV := Lib.hid hV
    clear hV
    cases i1 : inB t (-10000) 10000 <;> cases i2 : inB k 0 64 <;> cases i3 : inB d 0 64
    case true.true.true => exact absurd (by rw [i1, i2, i3]; rfl) hn
    all_goals
      clear hn
      go_enter Try.func20, Try.ntmps20
      go_wp2_with (first | (go_at_call 16; refine (motorValid_any _ _ _).mono ?_; rintro e w1 ⟨rfl, os, d, rfl⟩) | (go_at_call 42; refine (aimFits_any _ _ _ _).mono ?_; rintro e w' ⟨rfl, rfl⟩) | (go_at_call 43; refine (floor_any _ _ _ (by omega) (by omega) (by omega) (by omega)).mono ?_; rintro e w' ⟨rfl, rfl⟩) | (go_at_call 40; refine (clamp_any _ _ _ _).mono ?_; rintro e w' ⟨rfl, rfl⟩))
      go_ret
      exact ⟨ret_i64 HV.out.symm, up_of_below (by repeat (first | with_reducible exact Below.refl _ _ | with_reducible apply below_alloc | with_reducible apply below_drw | with_reducible apply below_drew | with_reducible apply below_drewN | with_reducible apply below_plus | with_reducible apply below_set | (simp; done)))⟩
  all_goals
    rw [aimF, h1, h2, if_neg (by decide)] at hV
    have HV := Lib.hid hV
    clear hV
    go_enter Try.func20, Try.ntmps20
    go_wp2_with (first | (go_at_call 16; refine (motorValid_any _ _ _).mono ?_; rintro e w1 ⟨rfl, os, d, rfl⟩) | (go_at_call 42; refine (aimFits_any _ _ _ _).mono ?_; rintro e w' ⟨rfl, rfl⟩) | (go_at_call 43; refine (floor_any _ _ _ (by omega) (by omega) (by omega) (by omega)).mono ?_; rintro e w' ⟨rfl, rfl⟩) | (go_at_call 40; refine (clamp_any _ _ _ _).mono ?_; rintro e w' ⟨rfl, rfl⟩))
    go_ret
    exact ⟨ret_i64 HV.out.symm, up_of_below (by repeat (first | with_reducible exact Below.refl _ _ | with_reducible apply below_alloc | with_reducible apply below_drw | with_reducible apply below_drew | with_reducible apply below_drewN | with_reducible apply below_plus | with_reducible apply below_set | (simp; done)))⟩


set_option maxHeartbeats 1000000 in
theorem sAim_any (a s t k d : Int) (w : World) :
    Calls Try.prog 19 #[.agg #[.int .i64 a, .int .i64 s], .int .i64 t, .int .i64 k, .int .i64 d] w fun e w' => e = .returned (.int .i64 (aimF a s t k d)) ∧ Up w w' := by
  obtain ⟨V, hV⟩ : ∃ V, V = aimF a s t k d := ⟨_, rfl⟩
  rw [← hV]
  cases h1 : motB a s <;> cases h2 : aimB t k d
  case true.true =>
    rw [aimF, h1, h2, if_pos (by decide)] at hV
    have HV := Lib.hid hV
    clear hV
    obtain ⟨⟨x1, x2⟩, ⟨x3, x4⟩, x5, x6⟩ := aim_bd h1 h2
    have c1 := (aimB_t.1 h2).1
    have c2 := (aimB_t.1 h2).2.1
    have c3 := (aimB_t.1 h2).2.2
    have i1 := inB_t.2 c1
    have i2 := inB_t.2 c2
    have i3 := inB_t.2 c3
    have H1 := Lib.hid h1
    have H2 := Lib.hid h2
    clear c1 c2 c3
    go_enter Try.func19, Try.ntmps19
    go_wp2_with (first | (go_at_call 14; refine (sMotorValid_any _ _ _).mono ?_; rintro e w1 ⟨rfl, os, d, rfl⟩) | (go_at_call 37; refine (l1In_any _ _ _ _).mono ?_; rintro e w' ⟨rfl, rfl⟩) | (go_at_call 41; refine (l14Aim_any _ _ _ _ _ _ H1.out H2.out).mono ?_; rintro e w1 ⟨rfl, os, d, rfl⟩))
    go_ret
    exact ⟨ret_i64 HV.out.symm, up_of_below (by repeat (first | with_reducible exact Below.refl _ _ | with_reducible apply below_alloc | with_reducible apply below_drw | with_reducible apply below_drew | with_reducible apply below_drewN | with_reducible apply below_plus | with_reducible apply below_set | (simp; done)))⟩
  case true.false =>
    have hn : ¬ ((inB t (-10000) 10000 && (inB k 0 64 && inB d 0 64)) = true) := by intro hh; rw [aimB, hh] at h2; exact absurd h2 (by decide)
    rw [aimF, h1, h2, if_neg (by decide)] at hV
    have HV := Lib.hid hV
    clear hV
    cases i1 : inB t (-10000) 10000 <;> cases i2 : inB k 0 64 <;> cases i3 : inB d 0 64
    case true.true.true => exact absurd (by rw [i1, i2, i3]; rfl) hn
    all_goals
      clear hn
      go_enter Try.func19, Try.ntmps19
      go_wp2_with (first | (go_at_call 14; refine (sMotorValid_any _ _ _).mono ?_; rintro e w1 ⟨rfl, os, d, rfl⟩) | (go_at_call 37; refine (l1In_any _ _ _ _).mono ?_; rintro e w' ⟨rfl, rfl⟩) | (go_at_call 41; refine (l14Aim_any _ _ _ _ _ _ H1.out H2.out).mono ?_; rintro e w1 ⟨rfl, os, d, rfl⟩))
      go_ret
      exact ⟨ret_i64 HV.out.symm, up_of_below (by repeat (first | with_reducible exact Below.refl _ _ | with_reducible apply below_alloc | with_reducible apply below_drw | with_reducible apply below_drew | with_reducible apply below_drewN | with_reducible apply below_plus | with_reducible apply below_set | (simp; done)))⟩
  all_goals
    rw [aimF, h1, h2, if_neg (by decide)] at hV
    have HV := Lib.hid hV
    clear hV
    go_enter Try.func19, Try.ntmps19
    go_wp2_with (first | (go_at_call 14; refine (sMotorValid_any _ _ _).mono ?_; rintro e w1 ⟨rfl, os, d, rfl⟩) | (go_at_call 37; refine (l1In_any _ _ _ _).mono ?_; rintro e w' ⟨rfl, rfl⟩) | (go_at_call 41; refine (l14Aim_any _ _ _ _ _ _ H1.out H2.out).mono ?_; rintro e w1 ⟨rfl, os, d, rfl⟩))
    go_ret
    exact ⟨ret_i64 HV.out.symm, up_of_below (by repeat (first | with_reducible exact Below.refl _ _ | with_reducible apply below_alloc | with_reducible apply below_drw | with_reducible apply below_drew | with_reducible apply below_drewN | with_reducible apply below_plus | with_reducible apply below_set | (simp; done)))⟩

set_option maxHeartbeats 400000 in
theorem exactAimTorque_any (x y t k d : Int) (w : World) :
    Calls Try.prog 5 #[.agg #[.int .i64 x, .int .i64 y], .int .i64 t, .int .i64 k, .int .i64 d] w fun e w' => e = .returned (.bool true) ∧ Up w w' := by
  go_enter Try.func5, Try.ntmps5
  go_wp2_with (first | (go_at_call 15; refine (toMotor_any _ _ _).mono ?_; rintro e w1 ⟨rfl, os, d, rfl⟩) | (go_at_call 19; refine (sAim_any _ _ _ _ _ _).mono ?_; rintro e w1 ⟨rfl, os, d, rfl⟩) | (go_at_call 20; refine (aim_any _ _ _ _ _ _).mono ?_; rintro e w1 ⟨rfl, os, d, rfl⟩))
  go_ret
  exact ⟨rfl, up_of_below (by repeat (first | with_reducible exact Below.refl _ _ | with_reducible apply below_alloc | with_reducible apply below_drw | with_reducible apply below_drew | with_reducible apply below_drewN | with_reducible apply below_plus | with_reducible apply below_set | (simp; done)))⟩

end Go.Proofs.Ytelcaafnjahbkaa
