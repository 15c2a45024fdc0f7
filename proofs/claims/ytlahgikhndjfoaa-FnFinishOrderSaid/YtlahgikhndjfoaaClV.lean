/-
  Contracts of the functions on valid claims (program and reference). Conditions: those that each theorem states.
-/
import Derived.Test.YtlahgikhndjfoaaCl
import Derived.Shelf.Abstract
namespace Go.Proofs.Ytlahgikhndjfoaa
open Go.RowKit

/-! ### plain -/
def okN (zs : List Int) (j : Nat) : Bool := inB (zs.getD j 0) 0 100
def smallB (zs : List Int) : Bool := allB (okN zs) zs.length
def amtB (zs : List Int) (k : Nat) : Bool := decide (zs.length = k) && smallB zs
def okC (rs : List (List Int)) (k j : Nat) : Bool := amtB (hold rs j) k && amtB (need rs j) k
def claimsB (n : Nat) (rs : List (List Int)) (fs : List Int) : Bool := decide (n ≤ 6) && decide (fs.length ≤ 4) && smallB fs && allB (okC rs fs.length) n

/-! ### numbers -/
set_option maxHeartbeats 400000 in
theorem small_any (a : Option Addr) (c n : Nat) (zs : List Int) (w : World) (hi : Ints w a zs) (hz : n = zs.length) (hn : n ≤ 1000000000) :
    Calls Try.prog 25 #[.slice a n c] w fun e w' => e = .returned (.bool (smallB zs)) ∧ w = w' := by
  have HI := Lib.hid hi
  have HZ := Lib.hid hz
  clear hi hz
  go_enter Try.func25, Try.ntmps25
  go_wp2
  go_loop [3] (fun iv => ∃ j : Nat, j ≤ n ∧ iv = .int .i64 j ∧ Hid (∀ i, i < j → okN zs i = true)) (fun iv => n - (intOf iv).toNat)
  case atStart => exact ⟨0, Nat.zero_le _, rfl, fun i hi => absurd hi (Nat.not_lt_zero _)⟩
  case round =>
    obtain ⟨j, hj, rfl, HP⟩ := hrel
    by_cases hlt : j < n
    · have hlt' : (j : Int) < (n : Int) := by omega
      rcases HI.out with h0 | ⟨blk, off, rfl, hc⟩
      · have := HZ.out; rw [h0] at this; simp at this; omega
      have c0 := hc j (by rw [← HZ.out]; exact hlt)
      clear hc
      have HX : Hid (okN zs j = inB (zs.getD j 0) 0 100) := rfl
      generalize zs.getD j 0 = x at c0 HX
      cases h1 : inB x 0 100
      · have HY : Hid (smallB zs = false) := by
          show smallB zs = false
          exact allB_f (by rw [← HZ.out]; exact hlt) (by rw [HX.out, h1])
        go_wp2_with (go_at_call 43; refine (l1In_any _ _ _ _).mono ?_; rintro e w' ⟨rfl, rfl⟩)
        go_ret
        exact ⟨by rw [HY.out]; rfl, rfl⟩
      · have HY : Hid (okN zs j = true) := by show okN zs j = true; rw [HX.out, h1]
        go_wp2_with (go_at_call 43; refine (l1In_any _ _ _ _).mono ?_; rintro e w' ⟨rfl, rfl⟩)
        go_round
        case rel =>
          refine ⟨j + 1, by omega, by go_num, fun i hi => ?_⟩
          by_cases hij : i = j
          · subst hij; exact HY.out
          · exact HP.out i (by omega)
        case measure => simp [intOf]; omega
    · have hlt' : ¬ (j : Int) < (n : Int) := by omega
      obtain rfl : j = n := by omega
      have HY : Hid (smallB zs = true) := by
        show smallB zs = true
        exact allB_t.2 (by rw [← HZ.out]; exact HP.out)
      go_wp2
      go_ret
      exact ⟨by rw [HY.out]; rfl, rfl⟩

set_option maxHeartbeats 400000 in
theorem badN_any (x : Int) (w : World) :
    Calls Try.prog 46 #[.int .i64 x] w fun e w' => e = .returned (.bool (!inB x 0 100)) ∧ w = w' := by
  go_enter Try.func46, Try.ntmps46
  go_wp2_with (go_at_call 47; refine (within_any _ _ _ _).mono ?_; rintro e w' ⟨rfl, rfl⟩)
  go_ret
  exact ⟨rfl, rfl⟩
theorem badN_enters (args : Array Value) (w : World) : (callFunc 46 args).run Try.prog w = .ok (.enter 46 args) w := (enters_of Try.func46 (by kernel_rfl) rfl) args w

set_option maxHeartbeats 1000000 in
theorem indexN_any (a : Option Addr) (n c : Nat) (zs : List Int) (w : World) (hz : n = zs.length) (hi : Ints w a zs) (hn : n ≤ 1000000000) :
    Calls Try.prog 49 #[.slice a n c, .func (.func 46) #[] #[]] w fun e w' => ∃ r : Int, e = .returned (.int .i64 r) ∧ decide (0 ≤ r) = (!smallB zs) ∧ w = w' := by
  have HI := Lib.hid hi
  have HZ := Lib.hid hz
  have eg := badN_enters
  clear hi hz
  go_enter Try.func49, Try.ntmps49
  go_wp2
  go_loop [8] (fun iv => ∃ j : Nat, j ≤ n ∧ iv = .int .i64 j ∧ Hid (∀ i, i < j → okN zs i = true)) (fun iv => n - (intOf iv).toNat)
  case atStart => exact ⟨0, Nat.zero_le _, rfl, fun i hi => absurd hi (Nat.not_lt_zero _)⟩
  case round =>
    obtain ⟨j, hj, rfl, HP⟩ := hrel
    by_cases hlt : j < n
    · have hlt' : (j : Int) < (n : Int) := by omega
      rcases HI.out with h0 | ⟨blk, off, rfl, hc⟩
      · have := HZ.out; rw [h0] at this; simp at this; omega
      have c0 := hc j (by rw [← HZ.out]; exact hlt)
      clear hc
      have HX : Hid (okN zs j = inB (zs.getD j 0) 0 100) := rfl
      generalize zs.getD j 0 = x at c0 HX
      have hbad := fun W => badN_any x W
      cases h1 : inB x 0 100
      · rw [h1] at hbad
        have HY : Hid (smallB zs = false) := by
          show smallB zs = false
          exact allB_f (by rw [← HZ.out]; exact hlt) (by rw [HX.out, h1])
        clear h1
        go_wp2_with (first | (go_at_call 46; refine (hbad _).mono ?_; rintro e w1 ⟨rfl, rfl⟩))
        go_ret
        exact ⟨j, rfl, by rw [HY.out]; simp, rfl⟩
      · rw [h1] at hbad
        have HY : Hid (okN zs j = true) := by show okN zs j = true; rw [HX.out, h1]
        clear h1
        go_wp2_with (first | (go_at_call 46; refine (hbad _).mono ?_; rintro e w1 ⟨rfl, rfl⟩))
        go_round
        case rel =>
          refine ⟨j + 1, by omega, by go_num, fun i hi => ?_⟩
          by_cases hij : i = j
          · subst hij; exact HY.out
          · exact HP.out i (by omega)
        case measure => simp [intOf]; omega
    · have hlt' : ¬ (j : Int) < (n : Int) := by omega
      obtain rfl : j = n := by omega
      have HY : Hid (smallB zs = true) := by
        show smallB zs = true
        exact allB_t.2 (by rw [← HZ.out]; exact HP.out)
      go_wp2
      go_ret
      exact ⟨-1, rfl, by rw [HY.out]; rfl, rfl⟩

set_option maxHeartbeats 400000 in
theorem containsN_any (a : Option Addr) (n c : Nat) (zs : List Int) (w : World) (hz : n = zs.length) (hi : Ints w a zs) (hn : n ≤ 1000000000) :
    Calls Try.prog 45 #[.slice a n c, .func (.func 46) #[] #[]] w fun e w' => e = .returned (.bool (!smallB zs)) ∧ w = w' := by
  have H := Lib.hid (indexN_any a n c zs w hz hi hn)
  clear hz hi
  generalize smallB zs = q at H ⊢
  go_enter Try.func45, Try.ntmps45
  go_wp2_with (first | (go_at_call 49; refine H.out.mono ?_; rintro e w1 ⟨r, rfl, hr, rfl⟩))
  all_goals
    go_ret
    exact ⟨by rw [← hr]; simp_all, rfl⟩

set_option maxHeartbeats 400000 in
theorem amounts_any (a : Option Addr) (n c k : Nat) (zs : List Int) (w : World) (hz : n = zs.length) (hi : Ints w a zs) (hn : n ≤ 1000000000) :
    Calls Try.prog 34 #[.slice a n c, .int .i64 k] w fun e w' => e = .returned (.bool (amtB zs k)) ∧ w = w' := by
  have hcon := containsN_any a n c zs w hz hi hn
  by_cases h : n = k
  · have KK : Ending.returned (.bool (!!smallB zs)) = .returned (.bool (amtB zs k)) := by rw [amtB, ← hz, h]; simp
    have hnk : ((n : Int) == (k : Int)) = true := by simp [h]
    generalize smallB zs = r at hcon KK
    clear h hz hi
    go_enter Try.func34, Try.ntmps34
    go_wp2_with (first | (go_at_call 45; refine hcon.mono ?_; rintro e w' ⟨rfl, rfl⟩))
    go_ret
    exact ⟨by simpa using KK, rfl⟩
  · have KK : Ending.returned (.bool false) = .returned (.bool (amtB zs k)) := by rw [amtB, ← hz]; simp [h]
    have hnk : ((n : Int) == (k : Int)) = false := by simp; omega
    clear h hz hi hcon
    go_enter Try.func34, Try.ntmps34
    go_wp2
    go_ret
    exact ⟨KK, rfl⟩

end Go.Proofs.Ytlahgikhndjfoaa
