/-
  Contracts of the functions on the times of picks (program and reference): what each returns, in plain numbers. Conditions: those that each theorem states.
-/
import Derived.Test.YtcoigofgifbmpaaNum0
import Derived.Lib.Hide
import Derived.LoopTactic
namespace Go.Proofs.Ytcoigofgifbmpaa
open Go.RowKit

/-! ### plain -/
def convB (s lo hi : Int) : Bool := inB s 0 200 && (inB lo (-10000) 10000 && inB hi lo 10000)
theorem convB_t {s lo hi : Int} : convB s lo hi = true ↔ (0 ≤ s ∧ s ≤ 200) ∧ (-10000 ≤ lo ∧ lo ≤ 10000) ∧ lo ≤ hi ∧ hi ≤ 10000 := by simp [convB, inB_t]
/-- The first of n times from t on in the window; -1 if there is none. -/
def pickN (p s lo hi : Int) : Nat → Int → Int
  | 0, _ => -1
  | n + 1, t => if inB (p + s * t) lo hi = true then t else pickN p s lo hi n (t + 1)
def pickG (p s lo hi r : Int) : Int := pickN p s lo hi (2001 - r).toNat r
def pickB (p s lo hi r : Int) : Bool := convB s lo hi && (inB p (-10000) 10000 && inB r 0 2000)
theorem pickB_t {p s lo hi r : Int} : pickB p s lo hi r = true ↔ ((0 ≤ s ∧ s ≤ 200) ∧ (-10000 ≤ lo ∧ lo ≤ 10000) ∧ lo ≤ hi ∧ hi ≤ 10000) ∧ (-10000 ≤ p ∧ p ≤ 10000) ∧ 0 ≤ r ∧ r ≤ 2000 := by simp [pickB, inB_t, convB_t]
def pickF (p s lo hi r : Int) : Int := if pickB p s lo hi r = true then pickG p s lo hi r else -1
theorem pickN_hit {p s lo hi t : Int} (h1 : t ≤ 2000) (hb : inB (p + s * t) lo hi = true) : pickN p s lo hi (2001 - t).toNat t = t := by
  rw [show (2001 - t).toNat = (2000 - t).toNat + 1 by omega, pickN, if_pos hb]
theorem pickN_miss {p s lo hi t : Int} (h1 : t ≤ 2000) (hb : inB (p + s * t) lo hi = false) : pickN p s lo hi (2001 - t).toNat t = pickN p s lo hi (2001 - (t + 1)).toNat (t + 1) := by
  rw [show (2001 - t).toNat = (2001 - (t + 1)).toNat + 1 by omega, pickN, if_neg (by simp [hb])]
theorem pickN_end {p s lo hi : Int} : pickN p s lo hi (2001 - 2001 : Int).toNat 2001 = -1 := rfl
theorem mul_bd {a b A B : Int} (h0 : 0 ≤ a) (h1 : a ≤ A) (h2 : -B ≤ b) (h3 : b ≤ B) : -(A * B) ≤ a * b ∧ a * b ≤ A * B := by
  have hB : 0 ≤ B := by omega
  have e1 : a * b ≤ a * B := Int.mul_le_mul_of_nonneg_left h3 h0
  have e2 : a * B ≤ A * B := Int.mul_le_mul_of_nonneg_right h1 hB
  have e3 : a * (-B) ≤ a * b := Int.mul_le_mul_of_nonneg_left h2 h0
  rw [Int.mul_neg] at e3
  omega

/-! ### the walks -/
set_option maxHeartbeats 400000 in
theorem conveyorFits_any (s lo hi : Int) (w : World) :
    Calls Try.prog 36 #[.int .i64 s, .int .i64 lo, .int .i64 hi] w fun e w' => e = .returned (.bool (convB s lo hi)) ∧ w = w' := by
  cases h1 : inB s 0 200 <;> cases h2 : inB lo (-10000) 10000 <;> cases h3 : inB hi lo 10000 <;>
  · obtain ⟨b, KB⟩ : ∃ b, b = convB s lo hi := ⟨_, rfl⟩
    have KV := KB
    rw [convB, h1, h2, h3] at KV
    subst KV
    have KK := Lib.hid KB
    clear KB
    go_enter Try.func36, Try.ntmps36
    go_wp2_with (go_at_call 37; refine (within_any _ _ _ _).mono ?_; rintro e w' ⟨rfl, rfl⟩)
    go_ret
    exact ⟨ret_bool KK.out, rfl⟩

set_option maxHeartbeats 400000 in
theorem l13Ok_any (s lo hi : Int) (w : World) :
    Calls Try.prog 33 #[.int .i64 s, .int .i64 lo, .int .i64 hi] w fun e w' => e = .returned (.bool (convB s lo hi)) ∧ w = w' := by
  cases h1 : inB s 0 200 <;> cases h2 : inB lo (-10000) 10000 <;> cases h3 : inB hi lo 10000 <;>
  · obtain ⟨b, KB⟩ : ∃ b, b = convB s lo hi := ⟨_, rfl⟩
    have KV := KB
    rw [convB, h1, h2, h3] at KV
    subst KV
    have KK := Lib.hid KB
    clear KB
    go_enter Try.func33, Try.ntmps33
    go_wp2_with (go_at_call 34; refine (l1In_any _ _ _ _).mono ?_; rintro e w' ⟨rfl, rfl⟩)
    go_ret
    exact ⟨ret_bool KK.out, rfl⟩

set_option maxHeartbeats 400000 in
theorem l13Pick_any (p s lo hi r : Int) (w : World) (b : (0 ≤ s ∧ s ≤ 200) ∧ (-10000 ≤ p ∧ p ≤ 10000) ∧ 0 ≤ r ∧ r ≤ 3000) :
    Calls Try.prog 35 #[.int .i64 p, .int .i64 s, .int .i64 lo, .int .i64 hi, .int .i64 r] w fun e w' => e = .returned (.int .i64 (pickG p s lo hi r)) ∧ w = w' := by
  obtain ⟨⟨b1, b2⟩, ⟨b3, b4⟩, b5, b6⟩ := b
  obtain ⟨V, hV⟩ : ∃ V, V = pickG p s lo hi r := ⟨_, rfl⟩
  rw [← hV]
  by_cases hr : 2000 < r
  · have hm1 : V = -1 := by rw [hV, pickG, show (2001 - r).toNat = 0 by omega]; rfl
    have HV := Lib.hid hm1
    clear hV hm1
    go_enter Try.func35, Try.ntmps35
    go_wp2
    go_loop [11] (fun v => v = .int .i64 r) (fun _ => 0)
    case atStart => rfl
    case round =>
      obtain rfl := hrel
      go_wp2
      go_ret
      exact ⟨ret_i64 HV.out.symm, rfl⟩
  have HV := Lib.hid hV
  clear hV
  go_enter Try.func35, Try.ntmps35
  go_wp2
  go_loop [11] (fun v => ∃ t : Int, r ≤ t ∧ t ≤ 2001 ∧ v = .int .i64 t ∧ Hid (V = pickN p s lo hi (2001 - t).toNat t)) (fun v => (2001 - intOf v).toNat)
  case atStart => exact ⟨r, by omega, by omega, rfl, HV⟩
  case round =>
    obtain ⟨t, ht1, ht2, rfl, HT⟩ := hrel
    by_cases hlt : t ≤ 2000
    · obtain ⟨m1, m2⟩ := mul_bd (a := s) (b := t) (A := 200) (B := 2000) (by omega) (by omega) (by omega) (by omega)
      cases hB : inB (p + s * t) lo hi
      · have HN := Lib.hid (HT.out.trans (pickN_miss hlt hB))
        go_wp2_with (go_at_call 34; refine (l1In_any _ _ _ _).mono ?_; rintro e w' ⟨rfl, rfl⟩)
        go_round
        case rel => exact ⟨t + 1, by omega, by omega, rfl, HN⟩
        case measure => simp [intOf]; omega
      · have HN := Lib.hid (HT.out.trans (pickN_hit hlt hB))
        go_wp2_with (go_at_call 34; refine (l1In_any _ _ _ _).mono ?_; rintro e w' ⟨rfl, rfl⟩)
        go_ret
        exact ⟨ret_i64 HN.out.symm, rfl⟩
    · obtain rfl : t = 2001 := by omega
      go_wp2
      go_ret
      exact ⟨ret_i64 HT.out.symm, rfl⟩

set_option maxHeartbeats 400000 in
theorem sPickTime_any (p s lo hi r : Int) (w : World) :
    Calls Try.prog 12 #[.int .i64 p, .int .i64 s, .int .i64 lo, .int .i64 hi, .int .i64 r] w fun e w' => e = .returned (.int .i64 (pickF p s lo hi r)) ∧ w = w' := by
  cases h1 : convB s lo hi <;> cases h2 : inB p (-10000) 10000 <;> cases h3 : inB r 0 2000
  case true.true.true =>
    have hB : pickB p s lo hi r = true := by rw [pickB, h1, h2, h3]; rfl
    have KK : pickF p s lo hi r = pickG p s lo hi r := by rw [pickF, if_pos hB]
    have HK := Lib.hid KK
    clear KK
    have hb := pickB_t.1 hB
    clear hB
    have HB := Lib.hid hb
    clear hb
    go_enter Try.func12, Try.ntmps12
    go_wp2_with (first | (go_at_call 33; refine (l13Ok_any _ _ _ _).mono ?_; rintro e w' ⟨rfl, rfl⟩) | (go_at_call 34; refine (l1In_any _ _ _ _).mono ?_; rintro e w' ⟨rfl, rfl⟩) | (go_at_call 35; refine (l13Pick_any _ _ _ _ _ _ ⟨HB.out.1.1, HB.out.2.1, HB.out.2.2.1, Int.le_trans HB.out.2.2.2 (by decide)⟩).mono ?_; rintro e w' ⟨rfl, rfl⟩))
    go_ret
    exact ⟨ret_i64 HK.out.symm, rfl⟩
  all_goals
    have KK : pickF p s lo hi r = -1 := by rw [pickF, if_neg (by rw [pickB, h1, h2, h3]; decide)]
    have HK := Lib.hid KK
    clear KK
    go_enter Try.func12, Try.ntmps12
    go_wp2_with (first | (go_at_call 33; refine (l13Ok_any _ _ _ _).mono ?_; rintro e w' ⟨rfl, rfl⟩) | (go_at_call 34; refine (l1In_any _ _ _ _).mono ?_; rintro e w' ⟨rfl, rfl⟩))
    go_ret
    exact ⟨ret_i64 HK.out.symm, rfl⟩

set_option maxHeartbeats 400000 in
theorem pickTime_any (p s lo hi r : Int) (w : World) :
    Calls Try.prog 13 #[.int .i64 p, .int .i64 s, .int .i64 lo, .int .i64 hi, .int .i64 r] w fun e w' => e = .returned (.int .i64 (pickF p s lo hi r)) ∧ w = w' := by
  cases h1 : convB s lo hi <;> cases h2 : inB p (-10000) 10000 <;> cases h3 : inB r 0 2000
  case true.true.true =>
    have hB : pickB p s lo hi r = true := by rw [pickB, h1, h2, h3]; rfl
    obtain ⟨V, hV⟩ : ∃ V, V = pickF p s lo hi r := ⟨_, rfl⟩
    rw [← hV]
    rw [pickF, if_pos hB] at hV
    have HV := Lib.hid hV
    clear hV
    obtain ⟨⟨⟨b1, b2⟩, _⟩, ⟨b3, b4⟩, b5, b6⟩ := pickB_t.1 hB
    clear hB
    go_enter Try.func13, Try.ntmps13
    go_wp2_with (first | (go_at_call 36; refine (conveyorFits_any _ _ _ _).mono ?_; rintro e w' ⟨rfl, rfl⟩) | (go_at_call 37; refine (within_any _ _ _ _).mono ?_; rintro e w' ⟨rfl, rfl⟩))
    clear h1 h2 h3
    go_loop [11] (fun v => ∃ t : Int, r ≤ t ∧ t ≤ 2001 ∧ v = .int .i64 t ∧ Hid (V = pickN p s lo hi (2001 - t).toNat t)) (fun v => (2001 - intOf v).toNat)
    case atStart => exact ⟨r, by omega, by omega, rfl, HV⟩
    case round =>
      obtain ⟨t, ht1, ht2, rfl, HT⟩ := hrel
      by_cases hlt : t ≤ 2000
      · obtain ⟨m1, m2⟩ := mul_bd (a := s) (b := t) (A := 200) (B := 2000) (by omega) (by omega) (by omega) (by omega)
        cases hB : inB (p + s * t) lo hi
        · have HN := Lib.hid (HT.out.trans (pickN_miss hlt hB))
          go_wp2_with (go_at_call 37; refine (within_any _ _ _ _).mono ?_; rintro e w' ⟨rfl, rfl⟩)
          go_round
          case rel => exact ⟨t + 1, by omega, by omega, rfl, HN⟩
          case measure => simp [intOf]; omega
        · have HN := Lib.hid (HT.out.trans (pickN_hit hlt hB))
          go_wp2_with (go_at_call 37; refine (within_any _ _ _ _).mono ?_; rintro e w' ⟨rfl, rfl⟩)
          go_ret
          exact ⟨ret_i64 HN.out.symm, rfl⟩
      · obtain rfl : t = 2001 := by omega
        go_wp2
        go_ret
        exact ⟨ret_i64 HT.out.symm, rfl⟩
  all_goals
    have KK : pickF p s lo hi r = -1 := by rw [pickF, if_neg (by rw [pickB, h1, h2, h3]; decide)]
    have HK := Lib.hid KK
    clear KK
    go_enter Try.func13, Try.ntmps13
    go_wp2_with (first | (go_at_call 36; refine (conveyorFits_any _ _ _ _).mono ?_; rintro e w' ⟨rfl, rfl⟩) | (go_at_call 37; refine (within_any _ _ _ _).mono ?_; rintro e w' ⟨rfl, rfl⟩))
    go_ret
    exact ⟨ret_i64 HK.out.symm, rfl⟩

set_option maxHeartbeats 400000 in
theorem exactPickTime_any (p s lo hi r : Int) (w : World) :
    Calls Try.prog 3 #[.int .i64 p, .int .i64 s, .int .i64 lo, .int .i64 hi, .int .i64 r] w fun e w' => e = .returned (.bool true) ∧ Up w w' := by
  go_enter Try.func3, Try.ntmps3
  go_wp2_with (first | (go_at_call 13; refine (pickTime_any _ _ _ _ _ _).mono ?_; rintro e w' ⟨rfl, rfl⟩) | (go_at_call 12; refine (sPickTime_any _ _ _ _ _ _).mono ?_; rintro e w' ⟨rfl, rfl⟩))
  go_ret
  exact ⟨rfl, up_of_below (Below.refl _ _)⟩

end Go.Proofs.Ytcoigofgifbmpaa
