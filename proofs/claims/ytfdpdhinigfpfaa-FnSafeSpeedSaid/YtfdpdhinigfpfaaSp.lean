/-
  Contracts of the functions on stopping distances and safe speeds (program and reference): what each returns, in plain numbers. Conditions: those that each theorem states.
-/
import Derived.Test.YtfdpdhinigfpfaaNum0
import Derived.Lib.Hide
import Derived.LoopTactic
namespace Go.Proofs.Ytfdpdhinigfpfaa
open Go.RowKit

/-! ### plain -/
def stopN (r : Int) : Nat → Int → Int
  | 0, _ => 0
  | n + 1, v => if 0 < v then v + stopN r n (v - r) else 0
theorem stopN_neg {r v : Int} (k : Nat) (h : v ≤ 0) : stopN r k v = 0 := by
  cases k with
  | zero => rfl
  | succ n => rw [stopN, if_neg (by omega)]
theorem stopN_pos {r v : Int} (k : Nat) (h : 0 < v) : stopN r (k + 1) v = v + stopN r k (v - r) := by rw [stopN, if_pos h]
theorem stopN_bd {r : Int} (hr : 0 ≤ r) : ∀ (k : Nat) (v : Int), v ≤ 200 → 0 ≤ stopN r k v ∧ stopN r k v ≤ 200 * k := by
  intro k
  induction k with
  | zero => intro v _; simp [stopN]
  | succ n ih =>
    intro v hv
    have := ih (v - r) (by omega)
    rw [stopN]
    split <;> omega
def stopB (s r : Int) : Bool := inB s 0 200 && inB r 1 50
theorem stopB_t {s r : Int} : stopB s r = true ↔ (0 ≤ s ∧ s ≤ 200) ∧ 1 ≤ r ∧ r ≤ 50 := by simp [stopB, inB_t]
def stopF (s r : Int) : Int := if stopB s r = true then stopN r 200 (s - r) else -1
theorem stopF_bd {s r : Int} : -1 ≤ stopF s r ∧ stopF s r ≤ 40000 := by
  unfold stopF
  split
  · rename_i h
    have h := stopB_t.1 h
    have := stopN_bd (r := r) (by omega) 200 (s - r) (by omega)
    omega
  · omega
/-- The greatest number up to n that stops in time. -/
def safeN (d r m : Int) : Nat → Int
  | 0 => 0
  | n + 1 => if d - m < ((n : Int) + 1) + stopF ((n : Int) + 1) r then safeN d r m n else (n : Int) + 1
def safeI (d r m t : Int) : Int := safeN d r m t.toNat
theorem safeI_zero {d r m : Int} : safeI d r m 0 = 0 := rfl
theorem safeI_down {d r m t : Int} (h : 0 < t) (hc : d - m < t + stopF t r) : safeI d r m t = safeI d r m (t - 1) := by
  unfold safeI
  rw [show t.toNat = (t - 1).toNat + 1 by omega, safeN, show (((t - 1).toNat : Nat) : Int) + 1 = t by omega, if_pos hc]
theorem safeI_here {d r m t : Int} (h : 0 < t) (hc : ¬ d - m < t + stopF t r) : safeI d r m t = t := by
  unfold safeI
  rw [show t.toNat = (t - 1).toNat + 1 by omega, safeN, show (((t - 1).toNat : Nat) : Int) + 1 = t by omega, if_neg hc]
def safeB (d r m : Int) : Bool := inB d 0 5000 && (inB r 1 50 && inB m 0 5000)
theorem safeB_t {d r m : Int} : safeB d r m = true ↔ (0 ≤ d ∧ d ≤ 5000) ∧ (1 ≤ r ∧ r ≤ 50) ∧ 0 ≤ m ∧ m ≤ 5000 := by simp [safeB, inB_t]
def safeF (d r m : Int) : Int := if safeB d r m = true then safeI d r m 200 else -1

/-! ### the walks -/
set_option maxHeartbeats 400000 in
theorem stop_any (s r : Int) (w : World) :
    Calls Try.prog 16 #[.int .i64 s, .int .i64 r] w fun e w' => e = .returned (.int .i64 (stopF s r)) ∧ w = w' := by
  obtain ⟨V, hV⟩ : ∃ V, V = stopF s r := ⟨_, rfl⟩
  rw [← hV]
  cases h1 : inB s 0 200 <;> cases h2 : inB r 1 50
  case true.true =>
    have hB : stopB s r = true := by rw [stopB, h1, h2]; rfl
    rw [stopF, if_pos hB] at hV
    have HV := Lib.hid hV
    clear hV
    obtain ⟨⟨b1, b2⟩, b3, b4⟩ := stopB_t.1 hB
    clear hB
    go_enter Try.func16, Try.ntmps16
    go_wp2_with (go_at_call 38; refine (within_any _ _ _ _).mono ?_; rintro e w' ⟨rfl, rfl⟩)
    clear h1 h2
    go_loop [5, 6] (fun n v => ∃ (x t : Int) (k : Nat), 0 ≤ x ∧ x + 200 * k ≤ 40000 ∧ t ≤ 200 ∧ -50 ≤ t ∧ t ≤ k ∧ n = .int .i64 x ∧ v = .int .i64 t ∧ Hid (V = x + stopN r k t)) (fun _ v => (intOf v).toNat)
    case atStart => exact ⟨0, s - r, 200, by omega, by omega, by omega, by omega, by omega, rfl, rfl, by have := HV.out; show V = _; omega⟩
    case round =>
      obtain ⟨x, t, k, hx0, hx1, ht1, ht2, htk, rfl, rfl, HT⟩ := hrel
      by_cases hlt : 0 < t
      · obtain ⟨j, hj⟩ : ∃ j, k = j + 1 := ⟨k - 1, by omega⟩
        have HN : Hid (V = (x + t) + stopN r j (t - r)) := by
          have := HT.out; rw [hj, stopN_pos j hlt] at this; show V = _; omega
        have hj1 : x + t + 200 * j ≤ 40000 := by omega
        have hj2 : t - r ≤ j := by omega
        clear HT hj htk hx1
        have hj0 : (0 : Int) ≤ (j : Int) := by omega
        go_wp2
        go_round
        case rel => exact ⟨x + t, t - r, j, by omega, by omega, by omega, by omega, by omega, rfl, rfl, HN⟩
        case measure => simp [intOf]; omega
      · have HN : Hid (V = x) := by have := HT.out; rw [stopN_neg k (by omega)] at this; show V = _; omega
        go_wp2
        go_ret
        exact ⟨ret_i64 HN.out.symm, rfl⟩
  all_goals
    rw [stopF, if_neg (by rw [stopB, h1, h2]; decide)] at hV
    have HK := Lib.hid hV
    clear hV
    go_enter Try.func16, Try.ntmps16
    go_wp2_with (go_at_call 38; refine (within_any _ _ _ _).mono ?_; rintro e w' ⟨rfl, rfl⟩)
    go_ret
    exact ⟨ret_i64 HK.out.symm, rfl⟩

set_option maxHeartbeats 400000 in
theorem sStop_any (s r : Int) (w : World) :
    Calls Try.prog 17 #[.int .i64 s, .int .i64 r] w fun e w' => e = .returned (.int .i64 (stopF s r)) ∧ w = w' := by
  obtain ⟨V, hV⟩ : ∃ V, V = stopF s r := ⟨_, rfl⟩
  rw [← hV]
  cases h1 : inB s 0 200 <;> cases h2 : inB r 1 50
  case true.true =>
    have hB : stopB s r = true := by rw [stopB, h1, h2]; rfl
    rw [stopF, if_pos hB] at hV
    have HV := Lib.hid hV
    clear hV
    obtain ⟨⟨b1, b2⟩, b3, b4⟩ := stopB_t.1 hB
    clear hB
    go_enter Try.func17, Try.ntmps17
    go_wp2_with (go_at_call 37; refine (l1In_any _ _ _ _).mono ?_; rintro e w' ⟨rfl, rfl⟩)
    clear h1 h2
    go_loop [0, 5] (fun v n => ∃ (x t : Int) (k : Nat), 0 ≤ x ∧ x + 200 * k ≤ 40000 ∧ t ≤ 200 ∧ 0 ≤ t ∧ t - r ≤ k ∧ n = .int .i64 x ∧ v = .int .i64 t ∧ Hid (V = x + stopN r k (t - r))) (fun v _ => (intOf v).toNat)
    case atStart => exact ⟨0, s, 200, by omega, by omega, by omega, by omega, by omega, rfl, rfl, by have := HV.out; show V = _; omega⟩
    case round =>
      obtain ⟨x, t, k, hx0, hx1, ht1, ht2, htk, rfl, rfl, HT⟩ := hrel
      by_cases hlt : r < t
      · obtain ⟨j, hj⟩ : ∃ j, k = j + 1 := ⟨k - 1, by omega⟩
        have HN : Hid (V = (x + (t - r)) + stopN r j (t - r - r)) := by
          have := HT.out; rw [hj, stopN_pos j (by omega)] at this; show V = _; omega
        have hj1 : x + t - r + 200 * j ≤ 40000 := by omega
        have hj2 : t - r - r ≤ j := by omega
        clear HT hj htk hx1
        have hj0 : (0 : Int) ≤ (j : Int) := by omega
        go_wp2
        go_round
        case rel => exact ⟨x + (t - r), t - r, j, by omega, by omega, by omega, by omega, by omega, rfl, rfl, HN⟩
        case measure => simp [intOf]; omega
      · have HN : Hid (V = x) := by have := HT.out; rw [stopN_neg k (by omega)] at this; show V = _; omega
        go_wp2
        go_ret
        exact ⟨ret_i64 HN.out.symm, rfl⟩
  all_goals
    rw [stopF, if_neg (by rw [stopB, h1, h2]; decide)] at hV
    have HK := Lib.hid hV
    clear hV
    go_enter Try.func17, Try.ntmps17
    go_wp2_with (go_at_call 37; refine (l1In_any _ _ _ _).mono ?_; rintro e w' ⟨rfl, rfl⟩)
    go_ret
    exact ⟨ret_i64 HK.out.symm, rfl⟩

set_option maxHeartbeats 1000000 in
theorem safe_any (d r m : Int) (w : World) :
    Calls Try.prog 14 #[.int .i64 d, .int .i64 r, .int .i64 m] w fun e w' => e = .returned (.int .i64 (safeF d r m)) ∧ w = w' := by
  obtain ⟨V, hV⟩ : ∃ V, V = safeF d r m := ⟨_, rfl⟩
  rw [← hV]
  cases h1 : inB d 0 5000 <;> cases h2 : inB r 1 50 <;> cases h3 : inB m 0 5000
  case true.true.true =>
    have hB : safeB d r m = true := by rw [safeB, h1, h2, h3]; rfl
    rw [safeF, if_pos hB] at hV
    have HV := Lib.hid hV
    clear hV
    obtain ⟨⟨b1, b2⟩, ⟨b3, b4⟩, b5, b6⟩ := safeB_t.1 hB
    clear hB
    go_enter Try.func14, Try.ntmps14
    go_wp2_with (go_at_call 38; refine (within_any _ _ _ _).mono ?_; rintro e w' ⟨rfl, rfl⟩)
    clear h1 h2 h3
    go_loop [7] (fun v => ∃ t : Int, 0 ≤ t ∧ t ≤ 200 ∧ v = .int .i64 t ∧ Hid (V = safeI d r m t)) (fun v => (intOf v).toNat)
    case atStart => exact ⟨200, by omega, by omega, rfl, HV⟩
    case round =>
      obtain ⟨t, ht1, ht2, rfl, HT⟩ := hrel
      by_cases hlt : 0 < t
      · obtain ⟨s1, s2⟩ := stopF_bd (s := t) (r := r)
        by_cases hc : d - m < t + stopF t r
        · have HN := Lib.hid (HT.out.trans (safeI_down hlt hc))
          go_wp2_with (go_at_call 16; refine (stop_any _ _ _).mono ?_; rintro e w' ⟨rfl, rfl⟩)
          go_round
          case rel => exact ⟨t - 1, by omega, by omega, rfl, HN⟩
          case measure => simp [intOf]; omega
        · have HN := Lib.hid (HT.out.trans (safeI_here hlt hc))
          go_wp2_with (go_at_call 16; refine (stop_any _ _ _).mono ?_; rintro e w' ⟨rfl, rfl⟩)
          go_ret
          exact ⟨ret_i64 HN.out.symm, rfl⟩
      · obtain rfl : t = 0 := by omega
        have HN := Lib.hid (HT.out.trans safeI_zero)
        go_wp2
        go_ret
        exact ⟨ret_i64 HN.out.symm, rfl⟩
  all_goals
    rw [safeF, if_neg (by rw [safeB, h1, h2, h3]; decide)] at hV
    have HK := Lib.hid hV
    clear hV
    go_enter Try.func14, Try.ntmps14
    go_wp2_with (go_at_call 38; refine (within_any _ _ _ _).mono ?_; rintro e w' ⟨rfl, rfl⟩)
    go_ret
    exact ⟨ret_i64 HK.out.symm, rfl⟩


set_option maxHeartbeats 1000000 in
theorem sSafe_any (d r m : Int) (w : World) :
    Calls Try.prog 13 #[.int .i64 d, .int .i64 r, .int .i64 m] w fun e w' => e = .returned (.int .i64 (safeF d r m)) ∧ w = w' := by
  obtain ⟨V, hV⟩ : ∃ V, V = safeF d r m := ⟨_, rfl⟩
  rw [← hV]
  cases h1 : inB d 0 5000 <;> cases h2 : inB r 1 50 <;> cases h3 : inB m 0 5000
  case true.true.true =>
    have hB : safeB d r m = true := by rw [safeB, h1, h2, h3]; rfl
    rw [safeF, if_pos hB] at hV
    have HV := Lib.hid hV
    clear hV
    obtain ⟨⟨b1, b2⟩, ⟨b3, b4⟩, b5, b6⟩ := safeB_t.1 hB
    clear hB
    go_enter Try.func13, Try.ntmps13
    go_wp2_with (go_at_call 37; refine (l1In_any _ _ _ _).mono ?_; rintro e w' ⟨rfl, rfl⟩)
    clear h1 h2 h3
    go_loop [7] (fun v => ∃ t : Int, 0 ≤ t ∧ t ≤ 200 ∧ v = .int .i64 t ∧ Hid (V = safeI d r m t)) (fun v => (intOf v).toNat)
    case atStart => exact ⟨200, by omega, by omega, rfl, HV⟩
    case round =>
      obtain ⟨t, ht1, ht2, rfl, HT⟩ := hrel
      by_cases hlt : 0 < t
      · obtain ⟨s1, s2⟩ := stopF_bd (s := t) (r := r)
        by_cases hc : d - m < t + stopF t r
        · have HN := Lib.hid (HT.out.trans (safeI_down hlt hc))
          go_wp2_with (go_at_call 17; refine (sStop_any _ _ _).mono ?_; rintro e w' ⟨rfl, rfl⟩)
          go_round
          case rel => exact ⟨t - 1, by omega, by omega, rfl, HN⟩
          case measure => simp [intOf]; omega
        · have HN := Lib.hid (HT.out.trans (safeI_here hlt hc))
          go_wp2_with (go_at_call 17; refine (sStop_any _ _ _).mono ?_; rintro e w' ⟨rfl, rfl⟩)
          go_ret
          exact ⟨ret_i64 HN.out.symm, rfl⟩
      · obtain rfl : t = 0 := by omega
        have HN := Lib.hid (HT.out.trans safeI_zero)
        go_wp2
        go_ret
        exact ⟨ret_i64 HN.out.symm, rfl⟩
  all_goals
    rw [safeF, if_neg (by rw [safeB, h1, h2, h3]; decide)] at hV
    have HK := Lib.hid hV
    clear hV
    go_enter Try.func13, Try.ntmps13
    go_wp2_with (go_at_call 37; refine (l1In_any _ _ _ _).mono ?_; rintro e w' ⟨rfl, rfl⟩)
    go_ret
    exact ⟨ret_i64 HK.out.symm, rfl⟩

set_option maxHeartbeats 400000 in
theorem exactSafeSpeed_any (d r m : Int) (w : World) :
    Calls Try.prog 3 #[.int .i64 d, .int .i64 r, .int .i64 m] w fun e w' => e = .returned (.bool true) ∧ Up w w' := by
  go_enter Try.func3, Try.ntmps3
  go_wp2_with (first | (go_at_call 14; refine (safe_any _ _ _ _).mono ?_; rintro e w' ⟨rfl, rfl⟩) | (go_at_call 13; refine (sSafe_any _ _ _ _).mono ?_; rintro e w' ⟨rfl, rfl⟩))
  go_ret
  exact ⟨rfl, up_of_below (Below.refl _ _)⟩

end Go.Proofs.Ytfdpdhinigfpfaa
