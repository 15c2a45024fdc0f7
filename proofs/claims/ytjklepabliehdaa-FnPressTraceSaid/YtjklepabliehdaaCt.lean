/-
  Contracts of the functions on contact (program and reference): what each returns, in plain numbers. Conditions: those that each theorem states.
-/
import Derived.Test.YtjklepabliehdaaNum
import Derived.Lib.Hide
namespace Go.Proofs.Ytjklepabliehdaa
open Go.RowKit

/-! ### plain -/
def wallB (p w k : Int) : Bool := inB p (-10000) 10000 && (inB w (-10000) 10000 && inB k 1 100)
theorem wallB_t {p w k : Int} : wallB p w k = true ↔ (-10000 ≤ p ∧ p ≤ 10000) ∧ (-10000 ≤ w ∧ w ≤ 10000) ∧ 1 ≤ k ∧ k ≤ 100 := by simp [wallB, inB_t]
/-- The force of a wall. -/
def frc (p w k : Int) : Int := k * max (p - w) 0
def contactF (p w k : Int) : Int := if wallB p w k = true then frc p w k else -1
theorem contactF_t {p w k : Int} (h : wallB p w k = true) : contactF p w k = frc p w k := by simp [contactF, h]
theorem contactF_f {p w k : Int} (h : wallB p w k = false) : contactF p w k = -1 := by simp [contactF, h]

/-! ### the walks -/
set_option maxHeartbeats 400000 in
theorem wallFits_any (x y q : Int) (w : World) :
    Calls Try.prog 34 #[.int .i64 x, .int .i64 y, .int .i64 q] w fun e w' => e = .returned (.bool (wallB x y q)) ∧ w = w' := by
  cases h1 : inB x (-10000) 10000 <;> cases h2 : inB y (-10000) 10000 <;> cases h3 : inB q 1 100 <;>
  · obtain ⟨b, KB⟩ : ∃ b, b = wallB x y q := ⟨_, rfl⟩
    have KV := KB
    rw [wallB, h1, h2, h3] at KV
    subst KV
    have KK := Lib.hid KB
    clear KB
    go_enter Try.func34, Try.ntmps34
    go_wp2_with (go_at_call 37; refine (within_any _ _ _ _).mono ?_; rintro e w' ⟨rfl, rfl⟩)
    go_ret
    exact ⟨ret_bool KK.out, rfl⟩

set_option maxHeartbeats 400000 in
theorem l15Ok_any (x y q : Int) (w : World) :
    Calls Try.prog 32 #[.int .i64 x, .int .i64 y, .int .i64 q] w fun e w' => e = .returned (.bool (wallB x y q)) ∧ w = w' := by
  cases h1 : inB x (-10000) 10000 <;> cases h2 : inB y (-10000) 10000 <;> cases h3 : inB q 1 100 <;>
  · obtain ⟨b, KB⟩ : ∃ b, b = wallB x y q := ⟨_, rfl⟩
    have KV := KB
    rw [wallB, h1, h2, h3] at KV
    subst KV
    have KK := Lib.hid KB
    clear KB
    go_enter Try.func32, Try.ntmps32
    go_wp2_with (go_at_call 35; refine (l1In_any _ _ _ _).mono ?_; rintro e w' ⟨rfl, rfl⟩)
    go_ret
    exact ⟨ret_bool KK.out, rfl⟩

set_option maxHeartbeats 400000 in
theorem l15Force_any (x y q : Int) (w : World) (h1 : -100000 ≤ x) (h2 : x ≤ 100000) (h3 : -100000 ≤ y) (h4 : y ≤ 100000) (h5 : 0 ≤ q) (h6 : q ≤ 100) :
    Calls Try.prog 33 #[.int .i64 x, .int .i64 y, .int .i64 q] w fun e w' => e = .returned (.int .i64 (frc x y q)) ∧ w = w' := by
  rcases Int.lt_trichotomy (x - y) 0 with c | c | c
  · have e : frc x y q = 0 := by unfold frc; rw [show max (x - y) 0 = 0 by omega]; omega
    have E := Lib.hid (e)
    clear e 
    go_enter Try.func33, Try.ntmps33
    go_wp2
    go_ret
    exact ⟨ret_i64 (by rw [E.out]), rfl⟩
  · obtain rfl : x = y := by omega
    have e : frc x x q = 0 := by unfold frc; rw [show max (x - x) 0 = 0 by omega]; omega
    have E := Lib.hid (e)
    clear e c 
    go_enter Try.func33, Try.ntmps33
    go_wp2
    go_ret
    exact ⟨ret_i64 (by rw [E.out]), rfl⟩
  · have hm := mul_bd (a := q) (b := x - y) (A := 100) (B := 200000) (by omega) (by omega) (by omega) (by omega)
    have e : frc x y q = q * (x - y) := by unfold frc; rw [show max (x - y) 0 = x - y by omega]
    have E := Lib.hid (e)
    clear e 
    obtain ⟨hm1, hm2⟩ := hm
    go_enter Try.func33, Try.ntmps33
    go_wp2
    go_ret
    exact ⟨ret_i64 E.out.symm, rfl⟩

set_option maxHeartbeats 400000 in
theorem contact_any (x y q : Int) (w : World) :
    Calls Try.prog 12 #[.int .i64 x, .int .i64 y, .int .i64 q] w fun e w' => e = .returned (.int .i64 (contactF x y q)) ∧ w = w' := by
  cases hv : wallB x y q
  · have KK := Lib.hid (contactF_f hv)
    go_enter Try.func12, Try.ntmps12
    go_wp2_with (go_at_call 34; refine (wallFits_any _ _ _ _).mono ?_; rintro e w' ⟨rfl, rfl⟩)
    go_ret
    exact ⟨ret_i64 KK.out.symm, rfl⟩
  · have KK := contactF_t hv
    obtain ⟨⟨_, _⟩, ⟨_, _⟩, h5, h6⟩ := wallB_t.1 hv
    rcases Int.lt_trichotomy (x - y) 0 with c | c | c
    · have e : frc x y q = 0 := by unfold frc; rw [show max (x - y) 0 = 0 by omega]; omega
      have E := Lib.hid (KK.trans e)
      clear e KK
      go_enter Try.func12, Try.ntmps12
      go_wp2_with (go_at_call 34; refine (wallFits_any _ _ _ _).mono ?_; rintro e w' ⟨rfl, rfl⟩)
      go_ret
      exact ⟨ret_i64 (by rw [E.out]), rfl⟩
    · obtain rfl : x = y := by omega
      have e : frc x x q = 0 := by unfold frc; rw [show max (x - x) 0 = 0 by omega]; omega
      have E := Lib.hid (KK.trans e)
      clear e c KK
      go_enter Try.func12, Try.ntmps12
      go_wp2_with (go_at_call 34; refine (wallFits_any _ _ _ _).mono ?_; rintro e w' ⟨rfl, rfl⟩)
      go_ret
      exact ⟨ret_i64 (by rw [E.out]), rfl⟩
    · have hm := mul_bd (a := q) (b := x - y) (A := 100) (B := 200000) (by omega) (by omega) (by omega) (by omega)
      have e : frc x y q = q * (x - y) := by unfold frc; rw [show max (x - y) 0 = x - y by omega]
      have E := Lib.hid (KK.trans e)
      clear e KK
      obtain ⟨hm1, hm2⟩ := hm
      go_enter Try.func12, Try.ntmps12
      go_wp2_with (go_at_call 34; refine (wallFits_any _ _ _ _).mono ?_; rintro e w' ⟨rfl, rfl⟩)
      go_ret
      exact ⟨ret_i64 E.out.symm, rfl⟩

set_option maxHeartbeats 400000 in
theorem sContact_any (x y q : Int) (w : World) :
    Calls Try.prog 11 #[.int .i64 x, .int .i64 y, .int .i64 q] w fun e w' => e = .returned (.int .i64 (contactF x y q)) ∧ w = w' := by
  cases hv : wallB x y q
  · have KK := Lib.hid (contactF_f hv)
    go_enter Try.func11, Try.ntmps11
    go_wp2_with (go_at_call 32; refine (l15Ok_any _ _ _ _).mono ?_; rintro e w' ⟨rfl, rfl⟩)
    go_ret
    exact ⟨ret_i64 KK.out.symm, rfl⟩
  · have KK := Lib.hid (contactF_t hv)
    obtain ⟨⟨_, _⟩, ⟨_, _⟩, h5, h6⟩ := wallB_t.1 hv
    go_enter Try.func11, Try.ntmps11
    go_wp2_with (first | (go_at_call 32; refine (l15Ok_any _ _ _ _).mono ?_; rintro e w' ⟨rfl, rfl⟩) | (go_at_call 33; refine (l15Force_any _ _ _ _ (by omega) (by omega) (by omega) (by omega) (by omega) (by omega)).mono ?_; rintro e w' ⟨rfl, rfl⟩))
    go_ret
    exact ⟨ret_i64 KK.out.symm, rfl⟩

set_option maxHeartbeats 400000 in
theorem exactContactForce_any (x y q : Int) (w : World) :
    Calls Try.prog 3 #[.int .i64 x, .int .i64 y, .int .i64 q] w fun e w' => e = .returned (.bool true) ∧ Up w w' := by
  go_enter Try.func3, Try.ntmps3
  go_wp2_with (first | (go_at_call 12; refine (contact_any _ _ _ _).mono ?_; rintro e w' ⟨rfl, rfl⟩) | (go_at_call 11; refine (sContact_any _ _ _ _).mono ?_; rintro e w' ⟨rfl, rfl⟩))
  go_ret
  exact ⟨rfl, up_of_below (Below.refl _ _)⟩

end Go.Proofs.Ytjklepabliehdaa
