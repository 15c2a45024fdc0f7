/-
  Contracts of the step of a tool that presses (program and reference): what each returns, in plain numbers. Conditions: those that each theorem states.
-/
import Derived.Test.YtjklepabliehdaaCt
import Derived.LoopTactic
namespace Go.Proofs.Ytjklepabliehdaa
open Go.RowKit

/-! ### plain -/
/-- By how much the tool moves, for valid arguments. -/
def prsD (p w k f s : Int) : Int := if f < frc p w k then -1 else if 1 ≤ (f - frc p w k) / k then min s ((f - frc p w k) / k) else if f < k * (p + 1 - w) then 0 else 1
def prsG (p w k f s : Int) : Int := clampF (p + prsD p w k f s) (-10000) 10000
def prsB (p w k f s : Int) : Bool := wallB p w k && (inB f 1 1000 && inB s 1 200)
theorem prsB_t {p w k f s : Int} : prsB p w k f s = true ↔ ((-10000 ≤ p ∧ p ≤ 10000) ∧ (-10000 ≤ w ∧ w ≤ 10000) ∧ 1 ≤ k ∧ k ≤ 100) ∧ (1 ≤ f ∧ f ≤ 1000) ∧ 1 ≤ s ∧ s ≤ 200 := by simp [prsB, inB_t, wallB_t]
def prsF (p w k f s : Int) : Int := if prsB p w k f s = true then prsG p w k f s else p

theorem frc_bd {p w k : Int} (h1 : -10000 ≤ p) (h2 : p ≤ 10000) (h3 : -10000 ≤ w) (h4 : w ≤ 10000) (h5 : 1 ≤ k) (h6 : k ≤ 100) : 0 ≤ frc p w k ∧ frc p w k ≤ 2000000 := by
  have h := mul_bd (a := k) (b := max (p - w) 0) (A := 100) (B := 20000) (by omega) h6 (by omega) (by omega)
  have h0 : 0 ≤ k * max (p - w) 0 := Int.mul_nonneg (by omega) (by omega)
  unfold frc; omega
theorem quo_mul {a k : Int} (hk : 1 ≤ k) : k * (a / k) ≤ a := by
  have := Int.mul_ediv_self_le (x := a) (k := k) (by omega)
  exact this
theorem quo_lt {a k : Int} (hk : 1 ≤ k) (h : ¬ 1 ≤ a / k) (h0 : 0 ≤ a) : a / k = 0 := by
  have := Int.ediv_nonneg h0 (show 0 ≤ k by omega); omega
/-- Up to the quotient the force is not exceeded. -/
theorem prs_free {p w k f d : Int} (hk : 1 ≤ k) (hd : d ≤ (f - frc p w k) / k) : k * (p + d - w) ≤ f := by
  have h1 : k * d ≤ k * ((f - frc p w k) / k) := Int.mul_le_mul_of_nonneg_left hd (by omega)
  have h2 := quo_mul (a := f - frc p w k) hk
  have e : k * (p + d - w) = k * (p - w) + k * d := by rw [← Int.mul_add]; congr 1; omega
  have h3 : k * (p - w) ≤ frc p w k := by unfold frc; exact Int.mul_le_mul_of_nonneg_left (by omega) (by omega)
  omega
theorem frc_gt {p w k f : Int} (hk : 1 ≤ k) (hf : 1 ≤ f) : f < frc p w k ↔ f < k * (p - w) := by
  unfold frc
  rcases Int.lt_or_le 0 (p - w) with c | c
  · rw [show max (p - w) 0 = p - w by omega]
  · rw [show max (p - w) 0 = 0 by omega]
    have : k * (p - w) ≤ 0 := Int.mul_nonpos_of_nonneg_of_nonpos (by omega) (by omega)
    omega

/-! ### the walks -/
set_option maxHeartbeats 1000000 in
theorem press_any (p w_ k f s : Int) (w : World) :
    Calls Try.prog 14 #[.int .i64 p, .int .i64 w_, .int .i64 k, .int .i64 f, .int .i64 s] w fun e w' => e = .returned (.int .i64 (prsF p w_ k f s)) ∧ w = w' := by
  obtain ⟨V, hV⟩ : ∃ V, V = prsF p w_ k f s := ⟨_, rfl⟩
  rw [← hV]
  cases h1 : wallB p w_ k <;> cases h2 : inB f 1 1000 <;> cases h3 : inB s 1 200
  case true.true.true =>
    have hB : prsB p w_ k f s = true := by rw [prsB, h1, h2, h3]; rfl
    rw [prsF, if_pos hB, prsG] at hV
    obtain ⟨⟨⟨p1, p2⟩, ⟨w1, w2⟩, k1, k2⟩, ⟨f1, f2⟩, s1, s2⟩ := prsB_t.1 hB
    obtain ⟨c1, c2⟩ := frc_bd p1 p2 w1 w2 k1 k2
    have e0 : contactF p w_ k = frc p w_ k := contactF_t h1
    clear hB
    by_cases hc : f < frc p w_ k
    · rw [prsD, if_pos hc] at hV
      have HV := Lib.hid hV
      clear hV
      go_enter Try.func14, Try.ntmps14
      go_wp2_with (first | (go_at_call 34; refine (wallFits_any _ _ _ _).mono ?_; rintro e w' ⟨rfl, rfl⟩) | (go_at_call 37; refine (within_any _ _ _ _).mono ?_; rintro e w' ⟨rfl, rfl⟩) | (go_at_call 12; refine (contact_any _ _ _ _).mono ?_; rintro e w' ⟨rfl, rfl⟩) | (go_at_call 38; refine (clamp_any _ _ _ _).mono ?_; rintro e w' ⟨rfl, rfl⟩))
      go_ret
      exact ⟨ret_i64 (by rw [HV.out]; try rfl), rfl⟩
    · rw [prsD, if_neg hc] at hV
      have hq0 := Int.ediv_nonneg (show 0 ≤ f - frc p w_ k by omega) (show 0 ≤ k by omega)
      have hq1 := Int.ediv_le_self (b := k) (a := f - frc p w_ k) (by omega)
      by_cases hq : 1 ≤ (f - frc p w_ k) / k
      · rw [if_pos hq] at hV
        -- the tool moves by d, and the loop ends at once
        obtain ⟨d, hd⟩ : ∃ d, d = min s ((f - frc p w_ k) / k) := ⟨_, rfl⟩
        rw [← hd] at hV
        have hfree := prs_free (p := p) (w := w_) (f := f) (d := d) k1 (by omega)
        have hd1 : 1 ≤ d := by omega
        have hd2 : d ≤ 200 := by omega
        obtain ⟨m1, m2⟩ := mul_bd (a := k) (b := p + d - w_) (A := 100) (B := 20200) (by omega) k2 (by omega) (by omega)
        have HV := Lib.hid hV
        have HD := Lib.hid hd
        clear hV hd
        go_enter Try.func14, Try.ntmps14
        go_wp2_with (first | (go_at_call 34; refine (wallFits_any _ _ _ _).mono ?_; rintro e w' ⟨rfl, rfl⟩) | (go_at_call 37; refine (within_any _ _ _ _).mono ?_; rintro e w' ⟨rfl, rfl⟩) | (go_at_call 12; refine (contact_any _ _ _ _).mono ?_; rintro e w' ⟨rfl, rfl⟩) | (go_at_call 38; refine (clamp_any _ _ _ _).mono ?_; rintro e w' ⟨rfl, rfl⟩))
        all_goals
          go_loop [12] (fun v => v = .int .i64 d) (fun _ => 0)
          case atStart => have := HD.out; congr 1; omega
          case round =>
            obtain rfl := hrel
            go_wp2_with (go_at_call 38; refine (clamp_any _ _ _ _).mono ?_; rintro e w' ⟨rfl, rfl⟩)
            go_ret
            exact ⟨ret_i64 HV.out.symm, rfl⟩
      · rw [if_neg hq] at hV
        have q0 : (f - frc p w_ k) / k = 0 := by omega
        have n1 : ¬ ((f - frc p w_ k) / k > 1) := by omega
        obtain ⟨m1, m2⟩ := mul_bd (a := k) (b := p + 1 - w_) (A := 100) (B := 20200) (by omega) k2 (by omega) (by omega)
        have ns : ¬ (s < 1) := by omega
        clear hq
        by_cases hp : f < k * (p + 1 - w_)
        · rw [if_pos hp] at hV
          have HV := Lib.hid hV
          clear hV
          go_enter Try.func14, Try.ntmps14
          go_wp2_with (first | (go_at_call 34; refine (wallFits_any _ _ _ _).mono ?_; rintro e w' ⟨rfl, rfl⟩) | (go_at_call 37; refine (within_any _ _ _ _).mono ?_; rintro e w' ⟨rfl, rfl⟩) | (go_at_call 12; refine (contact_any _ _ _ _).mono ?_; rintro e w' ⟨rfl, rfl⟩) | (go_at_call 38; refine (clamp_any _ _ _ _).mono ?_; rintro e w' ⟨rfl, rfl⟩))
          all_goals
            go_loop [12] (fun v => v = .int .i64 1 ∨ v = .int .i64 0) (fun v => (intOf v).toNat)
            case atStart => left; first | rfl | (congr 1; omega)
            case round =>
              rcases hrel with rfl | rfl
              · go_wp2
                go_round
                case rel => right; rfl
                case measure => simp [intOf]
              · go_wp2_with (go_at_call 38; refine (clamp_any _ _ _ _).mono ?_; rintro e w' ⟨rfl, rfl⟩)
                go_ret
                exact ⟨ret_i64 (by rw [HV.out]; try simp), rfl⟩
        · rw [if_neg hp] at hV
          have HV := Lib.hid hV
          clear hV
          go_enter Try.func14, Try.ntmps14
          go_wp2_with (first | (go_at_call 34; refine (wallFits_any _ _ _ _).mono ?_; rintro e w' ⟨rfl, rfl⟩) | (go_at_call 37; refine (within_any _ _ _ _).mono ?_; rintro e w' ⟨rfl, rfl⟩) | (go_at_call 12; refine (contact_any _ _ _ _).mono ?_; rintro e w' ⟨rfl, rfl⟩) | (go_at_call 38; refine (clamp_any _ _ _ _).mono ?_; rintro e w' ⟨rfl, rfl⟩))
          all_goals
            go_loop [12] (fun v => v = .int .i64 1) (fun _ => 0)
            case atStart => first | rfl | (congr 1; omega)
            case round =>
              obtain rfl := hrel
              go_wp2_with (go_at_call 38; refine (clamp_any _ _ _ _).mono ?_; rintro e w' ⟨rfl, rfl⟩)
              go_ret
              exact ⟨ret_i64 HV.out.symm, rfl⟩
  all_goals
    rw [prsF, if_neg (by rw [prsB, h1, h2, h3]; decide)] at hV
    have HK := Lib.hid hV
    clear hV
    go_enter Try.func14, Try.ntmps14
    go_wp2_with (first | (go_at_call 34; refine (wallFits_any _ _ _ _).mono ?_; rintro e w' ⟨rfl, rfl⟩) | (go_at_call 37; refine (within_any _ _ _ _).mono ?_; rintro e w' ⟨rfl, rfl⟩))
    go_ret
    exact ⟨ret_i64 HK.out.symm, rfl⟩

set_option maxHeartbeats 1000000 in
theorem sPress_any (p w_ k f s : Int) (w : World) :
    Calls Try.prog 13 #[.int .i64 p, .int .i64 w_, .int .i64 k, .int .i64 f, .int .i64 s] w fun e w' => e = .returned (.int .i64 (prsF p w_ k f s)) ∧ w = w' := by
  obtain ⟨V, hV⟩ : ∃ V, V = prsF p w_ k f s := ⟨_, rfl⟩
  rw [← hV]
  cases h1 : wallB p w_ k <;> cases h2 : inB f 1 1000 <;> cases h3 : inB s 1 200
  case true.true.true =>
    have hB : prsB p w_ k f s = true := by rw [prsB, h1, h2, h3]; rfl
    rw [prsF, if_pos hB, prsG] at hV
    obtain ⟨⟨⟨p1, p2⟩, ⟨w1, w2⟩, k1, k2⟩, ⟨f1, f2⟩, s1, s2⟩ := prsB_t.1 hB
    obtain ⟨c1, c2⟩ := frc_bd p1 p2 w1 w2 k1 k2
    clear hB
    by_cases hc : f < frc p w_ k
    · rw [prsD, if_pos hc] at hV
      have HV := Lib.hid hV
      clear hV
      go_enter Try.func13, Try.ntmps13
      go_wp2_with (first | (go_at_call 32; refine (l15Ok_any _ _ _ _).mono ?_; rintro e w' ⟨rfl, rfl⟩) | (go_at_call 35; refine (l1In_any _ _ _ _).mono ?_; rintro e w' ⟨rfl, rfl⟩) | (go_at_call 33; refine (l15Force_any _ _ _ _ (by omega) (by omega) (by omega) (by omega) (by omega) (by omega)).mono ?_; rintro e w' ⟨rfl, rfl⟩) | (go_at_call 36; refine (l1Clip_any _ _ _ _).mono ?_; rintro e w' ⟨rfl, rfl⟩))
      go_ret
      exact ⟨ret_i64 (by rw [HV.out]; try rfl), rfl⟩
    · rw [prsD, if_neg hc] at hV
      have hq0 := Int.ediv_nonneg (show 0 ≤ f - frc p w_ k by omega) (show 0 ≤ k by omega)
      have hq1 := Int.ediv_le_self (b := k) (a := f - frc p w_ k) (by omega)
      by_cases hq : 1 ≤ (f - frc p w_ k) / k
      · rw [if_pos hq] at hV
        obtain ⟨d, hd⟩ : ∃ d, d = min s ((f - frc p w_ k) / k) := ⟨_, rfl⟩
        rw [← hd] at hV
        have hfree := prs_free (p := p) (w := w_) (f := f) (d := d) k1 (by omega)
        have hfree : ¬ f < frc (p + d) w_ k := by rw [frc_gt k1 f1]; omega
        have hd1 : 1 ≤ d := by omega
        have hd2 : d ≤ 200 := by omega
        have HV := Lib.hid hV
        have HD := Lib.hid hd
        clear hV hd
        go_enter Try.func13, Try.ntmps13
        go_wp2_with (first | (go_at_call 32; refine (l15Ok_any _ _ _ _).mono ?_; rintro e w' ⟨rfl, rfl⟩) | (go_at_call 35; refine (l1In_any _ _ _ _).mono ?_; rintro e w' ⟨rfl, rfl⟩) | (go_at_call 33; refine (l15Force_any _ _ _ _ (by omega) (by omega) (by omega) (by omega) (by omega) (by omega)).mono ?_; rintro e w' ⟨rfl, rfl⟩) | (go_at_call 36; refine (l1Clip_any _ _ _ _).mono ?_; rintro e w' ⟨rfl, rfl⟩))
        all_goals
          go_loop [12] (fun v => v = .int .i64 d) (fun _ => 0)
          case atStart => have := HD.out; congr 1; omega
          case round =>
            obtain rfl := hrel
            by_cases g : 1 < d
            · go_wp2_with (first | (go_at_call 32; refine (l15Ok_any _ _ _ _).mono ?_; rintro e w' ⟨rfl, rfl⟩) | (go_at_call 35; refine (l1In_any _ _ _ _).mono ?_; rintro e w' ⟨rfl, rfl⟩) | (go_at_call 33; refine (l15Force_any _ _ _ _ (by omega) (by omega) (by omega) (by omega) (by omega) (by omega)).mono ?_; rintro e w' ⟨rfl, rfl⟩) | (go_at_call 36; refine (l1Clip_any _ _ _ _).mono ?_; rintro e w' ⟨rfl, rfl⟩))
              go_ret
              exact ⟨ret_i64 HV.out.symm, rfl⟩
            · go_wp2_with (first | (go_at_call 32; refine (l15Ok_any _ _ _ _).mono ?_; rintro e w' ⟨rfl, rfl⟩) | (go_at_call 35; refine (l1In_any _ _ _ _).mono ?_; rintro e w' ⟨rfl, rfl⟩) | (go_at_call 33; refine (l15Force_any _ _ _ _ (by omega) (by omega) (by omega) (by omega) (by omega) (by omega)).mono ?_; rintro e w' ⟨rfl, rfl⟩) | (go_at_call 36; refine (l1Clip_any _ _ _ _).mono ?_; rintro e w' ⟨rfl, rfl⟩))
              go_ret
              exact ⟨ret_i64 HV.out.symm, rfl⟩
      · rw [if_neg hq] at hV
        have q0 : (f - frc p w_ k) / k = 0 := by omega
        have ns : ¬ (s < 0) := by omega
        clear hq
        by_cases hp : f < k * (p + 1 - w_)
        · rw [if_pos hp] at hV
          have hp' : f < frc (p + 1) w_ k := by rw [frc_gt k1 f1]; exact hp
          have HV := Lib.hid hV
          clear hV hp
          go_enter Try.func13, Try.ntmps13
          go_wp2_with (first | (go_at_call 32; refine (l15Ok_any _ _ _ _).mono ?_; rintro e w' ⟨rfl, rfl⟩) | (go_at_call 35; refine (l1In_any _ _ _ _).mono ?_; rintro e w' ⟨rfl, rfl⟩) | (go_at_call 33; refine (l15Force_any _ _ _ _ (by omega) (by omega) (by omega) (by omega) (by omega) (by omega)).mono ?_; rintro e w' ⟨rfl, rfl⟩) | (go_at_call 36; refine (l1Clip_any _ _ _ _).mono ?_; rintro e w' ⟨rfl, rfl⟩))
          all_goals
            go_loop [12] (fun v => v = .int .i64 0) (fun _ => 0)
            case atStart => first | rfl | (congr 1; omega)
            case round =>
              obtain rfl := hrel
              go_wp2_with (first | (go_at_call 32; refine (l15Ok_any _ _ _ _).mono ?_; rintro e w' ⟨rfl, rfl⟩) | (go_at_call 35; refine (l1In_any _ _ _ _).mono ?_; rintro e w' ⟨rfl, rfl⟩) | (go_at_call 33; refine (l15Force_any _ _ _ _ (by omega) (by omega) (by omega) (by omega) (by omega) (by omega)).mono ?_; rintro e w' ⟨rfl, rfl⟩) | (go_at_call 36; refine (l1Clip_any _ _ _ _).mono ?_; rintro e w' ⟨rfl, rfl⟩))
              go_ret
              exact ⟨ret_i64 (by rw [HV.out]; try simp), rfl⟩
        · rw [if_neg hp] at hV
          have hp' : ¬ f < frc (p + 1) w_ k := by rw [frc_gt k1 f1]; exact hp
          have HV := Lib.hid hV
          clear hV hp
          go_enter Try.func13, Try.ntmps13
          go_wp2_with (first | (go_at_call 32; refine (l15Ok_any _ _ _ _).mono ?_; rintro e w' ⟨rfl, rfl⟩) | (go_at_call 35; refine (l1In_any _ _ _ _).mono ?_; rintro e w' ⟨rfl, rfl⟩) | (go_at_call 33; refine (l15Force_any _ _ _ _ (by omega) (by omega) (by omega) (by omega) (by omega) (by omega)).mono ?_; rintro e w' ⟨rfl, rfl⟩) | (go_at_call 36; refine (l1Clip_any _ _ _ _).mono ?_; rintro e w' ⟨rfl, rfl⟩))
          all_goals
            go_loop [12] (fun v => v = .int .i64 1) (fun _ => 0)
            case atStart => first | rfl | (congr 1; omega)
            case round =>
              obtain rfl := hrel
              go_wp2_with (first | (go_at_call 32; refine (l15Ok_any _ _ _ _).mono ?_; rintro e w' ⟨rfl, rfl⟩) | (go_at_call 35; refine (l1In_any _ _ _ _).mono ?_; rintro e w' ⟨rfl, rfl⟩) | (go_at_call 33; refine (l15Force_any _ _ _ _ (by omega) (by omega) (by omega) (by omega) (by omega) (by omega)).mono ?_; rintro e w' ⟨rfl, rfl⟩) | (go_at_call 36; refine (l1Clip_any _ _ _ _).mono ?_; rintro e w' ⟨rfl, rfl⟩))
              go_ret
              exact ⟨ret_i64 HV.out.symm, rfl⟩
  all_goals
    rw [prsF, if_neg (by rw [prsB, h1, h2, h3]; decide)] at hV
    have HK := Lib.hid hV
    clear hV
    go_enter Try.func13, Try.ntmps13
    go_wp2_with (first | (go_at_call 32; refine (l15Ok_any _ _ _ _).mono ?_; rintro e w' ⟨rfl, rfl⟩) | (go_at_call 35; refine (l1In_any _ _ _ _).mono ?_; rintro e w' ⟨rfl, rfl⟩))
    go_ret
    exact ⟨ret_i64 HK.out.symm, rfl⟩

set_option maxHeartbeats 400000 in
theorem exactPressStep_any (p w_ k f s : Int) (w : World) :
    Calls Try.prog 4 #[.int .i64 p, .int .i64 w_, .int .i64 k, .int .i64 f, .int .i64 s] w fun e w' => e = .returned (.bool true) ∧ Up w w' := by
  go_enter Try.func4, Try.ntmps4
  go_wp2_with (first | (go_at_call 14; refine (press_any _ _ _ _ _ _).mono ?_; rintro e w' ⟨rfl, rfl⟩) | (go_at_call 13; refine (sPress_any _ _ _ _ _ _).mono ?_; rintro e w' ⟨rfl, rfl⟩))
  go_ret
  exact ⟨rfl, up_of_below (Below.refl _ _)⟩

end Go.Proofs.Ytjklepabliehdaa
