/-
  Contracts of the functions on applied frames (program and reference), and of those that draw them. Conditions: those that each theorem states.
-/
import Derived.Test.YtnanipehcikcjaaDoorOdd
import Derived.Test.YtnanipehcikcjaaDoorNum0
import Derived.Lib.Hide
import Derived.LoopTactic
import Derived.Deep.RegionWith
namespace Go.Proofs.YtnanipehcikcjaaDoor
open Go.RowKit

/-! ### plain -/
/-- k quarter turns. -/
def qt : Nat → Int × Int → Int × Int
  | 0, p => p
  | k + 1, p => (-(qt k p).2, (qt k p).1)
theorem qt_bd (M : Int) (p : Int × Int) (h1 : -M ≤ p.1) (h2 : p.1 ≤ M) (h3 : -M ≤ p.2) (h4 : p.2 ≤ M) (k : Nat) : (-M ≤ (qt k p).1 ∧ (qt k p).1 ≤ M) ∧ -M ≤ (qt k p).2 ∧ (qt k p).2 ≤ M := by
  induction k with
  | zero => exact ⟨⟨h1, h2⟩, h3, h4⟩
  | succ k ih => simp only [qt]; omega
def frB (x y q : Int) : Bool := inB x (-1000000) 1000000 && (inB y (-1000000) 1000000 && inB q 0 3)
theorem frB_t {x y q : Int} : frB x y q = true ↔ (-1000000 ≤ x ∧ x ≤ 1000000) ∧ (-1000000 ≤ y ∧ y ≤ 1000000) ∧ 0 ≤ q ∧ q ≤ 3 := by simp [frB, inB_t]
def ptB (x y : Int) : Bool := inB x (-10000) 10000 && inB y (-10000) 10000
theorem ptB_t {x y : Int} : ptB x y = true ↔ (-10000 ≤ x ∧ x ≤ 10000) ∧ -10000 ≤ y ∧ y ≤ 10000 := by simp [ptB, inB_t]
abbrev Vf (x y q : Int) : Value := .agg #[.int .i64 x, .int .i64 y, .int .i64 q]
abbrev Vp (x y : Int) : Value := .agg #[.int .i64 x, .int .i64 y]

/-! ### the walks -/
set_option maxHeartbeats 400000 in
theorem frameValid_any (x y q : Int) (w : World) :
    Calls Tryd.prog 13 #[.agg #[.int .i64 x, .int .i64 y, .int .i64 q]] w fun e w' => e = .returned (.bool (frB x y q)) ∧ Up w w' := by
  have key : ∀ b, frB x y q = b → Ending.returned (.bool b) = .returned (.bool (frB x y q)) := by intro b h; rw [h]
  cases h1 : inB x (-1000000) 1000000 <;> cases h2 : inB y (-1000000) 1000000 <;> cases h3 : inB q 0 3 <;>
  · have KK := key _ (by simp only [frB, h1, h2, h3]; rfl)
    clear key
    go_enter Tryd.func13, Tryd.ntmps13
    go_wp2_with (go_at_call 25; refine (within_any _ _ _ _).mono ?_; rintro e w' ⟨rfl, rfl⟩)
    go_ret
    exact ⟨KK, up_of_below (by repeat (first | exact Below.refl _ _ | refine below_alloc ?_ _))⟩

set_option maxHeartbeats 400000 in
theorem sFrameValid_any (x y q : Int) (w : World) :
    Calls Tryd.prog 16 #[.agg #[.int .i64 x, .int .i64 y, .int .i64 q]] w fun e w' => e = .returned (.bool (frB x y q)) ∧ Up w w' := by
  have key : ∀ b, frB x y q = b → Ending.returned (.bool b) = .returned (.bool (frB x y q)) := by intro b h; rw [h]
  cases h1 : inB x (-1000000) 1000000 <;> cases h2 : inB y (-1000000) 1000000 <;> cases h3 : inB q 0 3 <;>
  · have KK := key _ (by simp only [frB, h1, h2, h3]; rfl)
    clear key
    go_enter Tryd.func16, Tryd.ntmps16
    go_wp2_with (go_at_call 18; refine (l1In_any _ _ _ _).mono ?_; rintro e w' ⟨rfl, rfl⟩)
    go_ret
    exact ⟨KK, up_of_below (by repeat (first | exact Below.refl _ _ | refine below_alloc ?_ _))⟩

theorem ret_p {a b c d : Int} (h : a = b) (h' : c = d) : Ending.returned (.agg #[.int .i64 a, .int .i64 c]) = .returned (.agg #[.int .i64 b, .int .i64 d]) := by rw [h, h']

/-- The first and the second coordinate after q quarter turns. -/
def qx (x y q : Int) : Int := (qt q.toNat (x, y)).1
def qy (x y q : Int) : Int := (qt q.toNat (x, y)).2
theorem qxy_bd {M x y : Int} (h1 : -M ≤ x) (h2 : x ≤ M) (h3 : -M ≤ y) (h4 : y ≤ M) (q : Int) : (-M ≤ qx x y q ∧ qx x y q ≤ M) ∧ -M ≤ qy x y q ∧ qy x y q ≤ M := qt_bd M (x, y) h1 h2 h3 h4 q.toNat
theorem qx_zero (x y : Int) : qx x y 0 = x := rfl
theorem qy_zero (x y : Int) : qy x y 0 = y := rfl
theorem qx_succ {x y q : Int} (h : 0 ≤ q) : qx x y (q + 1) = -qy x y q := by unfold qx qy; rw [show (q + 1).toNat = q.toNat + 1 by omega]; rfl
theorem qy_succ {x y q : Int} (h : 0 ≤ q) : qy x y (q + 1) = qx x y q := by unfold qx qy; rw [show (q + 1).toNat = q.toNat + 1 by omega]; rfl

set_option maxHeartbeats 400000 in
theorem l17Turn_any (x y q : Int) (w : World) (hq : 0 ≤ q) (hq1 : q ≤ 1000) (h1 : -2000000 ≤ x) (h2 : x ≤ 2000000) (h3 : -2000000 ≤ y) (h4 : y ≤ 2000000) :
    Calls Tryd.prog 17 #[.int .i64 x, .int .i64 y, .int .i64 q] w fun e w' => e = .returned (.tuple #[.int .i64 (qx x y q), .int .i64 (qy x y q)]) ∧ w = w' := by
  go_enter Tryd.func17, Tryd.ntmps17
  go_wp2
  go_loop [0, 1, 8] (fun a b k => ∃ t : Int, 0 ≤ t ∧ t ≤ q ∧ a = .int .i64 (qx x y t) ∧ b = .int .i64 (qy x y t) ∧ k = .int .i64 t) (fun _ _ k => (q - intOf k).toNat)
  case atStart => exact ⟨0, by omega, hq, rfl, rfl, rfl⟩
  case round =>
    obtain ⟨t, ht1, ht2, rfl, rfl, rfl⟩ := hrel
    obtain ⟨⟨b1, b2⟩, b3, b4⟩ := qxy_bd h1 h2 h3 h4 t
    by_cases hlt : t < q
    · go_wp2
      go_round
      case rel => exact ⟨t + 1, by omega, by omega, by rw [qx_succ ht1], by rw [qy_succ ht1], rfl⟩
      case measure => simp [intOf]; omega
    · obtain rfl : t = q := by omega
      go_wp2
      go_ret2
      exact ⟨rfl, rfl⟩

set_option maxHeartbeats 400000 in
theorem quarter_any (x y q : Int) (w : World) (hq : 0 ≤ q) (hq1 : q ≤ 1000) (h1 : -2000000 ≤ x) (h2 : x ≤ 2000000) (h3 : -2000000 ≤ y) (h4 : y ≤ 2000000) :
    Calls Tryd.prog 15 #[.agg #[.int .i64 x, .int .i64 y], .int .i64 q] w fun e w' => e = .returned (.agg #[.int .i64 (qx x y q), .int .i64 (qy x y q)]) ∧ Up w w' := by
  go_enter Tryd.func15, Tryd.ntmps15
  go_wp2
  go_loopw [6] (fun k wr => ∃ t : Int, 0 ≤ t ∧ t ≤ q ∧ k = .int .i64 t ∧ wr = (w.alloc (.cells #[.int .i64 (qx x y t), .int .i64 (qy x y t)] 26)).alloc (.cells #[.int .i64 0, .int .i64 0] 26)) (fun k _ => (q - intOf k).toNat)
  case atStart => exact ⟨0, by omega, hq, rfl, rfl⟩
  case round =>
    obtain ⟨t, ht1, ht2, rfl, rfl⟩ := hrel
    obtain ⟨⟨b1, b2⟩, b3, b4⟩ := qxy_bd h1 h2 h3 h4 t
    by_cases hlt : t < q
    · go_wp2
      go_roundw
      case rel => exact ⟨t + 1, by omega, by omega, rfl, by rw [qx_succ ht1, qy_succ ht1]⟩
      case measure => simp [intOf]; omega
    · obtain rfl : t = q := by omega
      go_wp2
      refine bodyPost_ret (v := .agg #[.int .i64 (qx x y t), .int .i64 (qy x y t)]) (by simp [results, Tryd.results15, go_sem]) rfl ⟨rfl, up_of_below ?_⟩
      repeat (first | with_reducible exact Below.refl _ _ | with_reducible apply below_alloc | with_reducible apply below_drw | with_reducible apply below_drew | with_reducible apply below_drewN | with_reducible apply below_plus | with_reducible apply below_set | (simp; done))

/-! ### application -/
def apB (x y q px py : Int) : Bool := frB x y q && ptB px py
def apX (x y q px py : Int) : Int := if apB x y q px py = true then x + qx px py q else 0
def apY (x y q px py : Int) : Int := if apB x y q px py = true then y + qy px py q else 0

set_option maxHeartbeats 400000 in
theorem pointValid_any (x y : Int) (w : World) :
    Calls Tryd.prog 14 #[.agg #[.int .i64 x, .int .i64 y]] w fun e w' => e = .returned (.bool (ptB x y)) ∧ Up w w' := by
  cases h1 : inB x (-10000) 10000 <;> cases h2 : inB y (-10000) 10000 <;>
  · obtain ⟨b, KB⟩ : ∃ b, b = ptB x y := ⟨_, rfl⟩
    have KV := KB
    rw [ptB, h1, h2] at KV
    subst KV
    have KK := Lib.hid KB
    clear KB
    go_enter Tryd.func14, Tryd.ntmps14
    go_wp2_with (go_at_call 25; refine (within_any _ _ _ _).mono ?_; rintro e w' ⟨rfl, rfl⟩)
    go_ret
    exact ⟨ret_bool KK.out, up_of_below (by repeat (first | with_reducible exact Below.refl _ _ | with_reducible apply below_alloc | with_reducible apply below_drw | with_reducible apply below_drew | with_reducible apply below_drewN | with_reducible apply below_plus | with_reducible apply below_set | (simp; done)))⟩


set_option maxHeartbeats 400000 in
theorem sPointValid_any (x y : Int) (w : World) :
    Calls Tryd.prog 7 #[.agg #[.int .i64 x, .int .i64 y]] w fun e w' => e = .returned (.bool (ptB x y)) ∧ Up w w' := by
  cases h1 : inB x (-10000) 10000 <;> cases h2 : inB y (-10000) 10000 <;>
  · obtain ⟨b, KB⟩ : ∃ b, b = ptB x y := ⟨_, rfl⟩
    have KV := KB
    rw [ptB, h1, h2] at KV
    subst KV
    have KK := Lib.hid KB
    clear KB
    go_enter Tryd.func7, Tryd.ntmps7
    go_wp2_with (go_at_call 18; refine (l1In_any _ _ _ _).mono ?_; rintro e w' ⟨rfl, rfl⟩)
    go_ret
    exact ⟨ret_bool KK.out, up_of_below (by repeat (first | with_reducible exact Below.refl _ _ | with_reducible apply below_alloc | with_reducible apply below_drw | with_reducible apply below_drew | with_reducible apply below_drewN | with_reducible apply below_plus | with_reducible apply below_set | (simp; done)))⟩

set_option maxHeartbeats 1000000 in
theorem apply_any (x y q px py : Int) (w : World) :
    Calls Tryd.prog 5 #[.agg #[.int .i64 x, .int .i64 y, .int .i64 q], .agg #[.int .i64 px, .int .i64 py]] w fun e w' => e = .returned (.agg #[.int .i64 (apX x y q px py), .int .i64 (apY x y q px py)]) ∧ Up w w' := by
  cases h : frB x y q <;> cases h' : ptB px py
  case true.true =>
    have HX : Hid (x + qx px py q = apX x y q px py ∧ y + qy px py q = apY x y q px py) := by simp only [Hid, apX, apY, apB, h, h']; exact ⟨rfl, rfl⟩
    obtain ⟨⟨h1, h2⟩, ⟨h3, h4⟩, h5, h6⟩ := frB_t.1 h
    obtain ⟨⟨k1, k2⟩, k3, k4⟩ := ptB_t.1 h'
    obtain ⟨⟨b1, b2⟩, b3, b4⟩ := qxy_bd k1 k2 k3 k4 q
    go_enter Tryd.func5, Tryd.ntmps5
    go_wp2_with (first | (go_at_call 13; refine (frameValid_any _ _ _ _).mono ?_; rintro e w1 ⟨rfl, os, d, rfl⟩) | (go_at_call 14; refine (pointValid_any _ _ _).mono ?_; rintro e w1 ⟨rfl, os, d, rfl⟩) | (go_at_call 15; refine (quarter_any _ _ _ _ (by omega) (by omega) (by omega) (by omega) (by omega) (by omega)).mono ?_; rintro e w1 ⟨rfl, os, d, rfl⟩))
    refine bodyPost_ret (v := .agg #[.int .i64 (x + qx px py q), .int .i64 (y + qy px py q)]) (by simp [results, Tryd.results5, go_sem]) rfl ⟨ret_p HX.out.1 HX.out.2, up_of_below ?_⟩
    repeat (first | with_reducible exact Below.refl _ _ | with_reducible apply below_alloc | with_reducible apply below_drw | with_reducible apply below_drew | with_reducible apply below_drewN | with_reducible apply below_plus | with_reducible apply below_set | (simp; done))
  all_goals
    have HX : Hid (0 = apX x y q px py ∧ 0 = apY x y q px py) := by simp only [Hid, apX, apY, apB, h, h']; exact ⟨rfl, rfl⟩
    go_enter Tryd.func5, Tryd.ntmps5
    go_wp2_with (first | (go_at_call 13; refine (frameValid_any _ _ _ _).mono ?_; rintro e w1 ⟨rfl, os, d, rfl⟩) | (go_at_call 14; refine (pointValid_any _ _ _).mono ?_; rintro e w1 ⟨rfl, os, d, rfl⟩))
    refine bodyPost_ret (v := .agg #[.int .i64 0, .int .i64 0]) (by simp [results, Tryd.results5, go_sem]) rfl ⟨ret_p HX.out.1 HX.out.2, up_of_below ?_⟩
    repeat (first | with_reducible exact Below.refl _ _ | with_reducible apply below_alloc | with_reducible apply below_drw | with_reducible apply below_drew | with_reducible apply below_drewN | with_reducible apply below_plus | with_reducible apply below_set | (simp; done))


set_option maxHeartbeats 1000000 in
theorem sApply_any (x y q px py : Int) (w : World) :
    Calls Tryd.prog 6 #[.agg #[.int .i64 x, .int .i64 y, .int .i64 q], .agg #[.int .i64 px, .int .i64 py]] w fun e w' => e = .returned (.agg #[.int .i64 (apX x y q px py), .int .i64 (apY x y q px py)]) ∧ Up w w' := by
  cases h : frB x y q <;> cases h' : ptB px py
  case true.true =>
    have HX : Hid (x + qx px py q = apX x y q px py ∧ y + qy px py q = apY x y q px py) := by simp only [Hid, apX, apY, apB, h, h']; exact ⟨rfl, rfl⟩
    obtain ⟨⟨h1, h2⟩, ⟨h3, h4⟩, h5, h6⟩ := frB_t.1 h
    obtain ⟨⟨k1, k2⟩, k3, k4⟩ := ptB_t.1 h'
    obtain ⟨⟨b1, b2⟩, b3, b4⟩ := qxy_bd k1 k2 k3 k4 q
    go_enter Tryd.func6, Tryd.ntmps6
    go_wp2_with (first | (go_at_call 16; refine (sFrameValid_any _ _ _ _).mono ?_; rintro e w1 ⟨rfl, os, d, rfl⟩) | (go_at_call 7; refine (sPointValid_any _ _ _).mono ?_; rintro e w1 ⟨rfl, os, d, rfl⟩) | (go_at_call 17; refine (l17Turn_any _ _ _ _ (by omega) (by omega) (by omega) (by omega) (by omega) (by omega)).mono ?_; rintro e w' ⟨rfl, rfl⟩))
    refine bodyPost_ret (v := .agg #[.int .i64 (x + qx px py q), .int .i64 (y + qy px py q)]) (by simp [results, Tryd.results6, go_sem]) rfl ⟨ret_p HX.out.1 HX.out.2, up_of_below ?_⟩
    repeat (first | with_reducible exact Below.refl _ _ | with_reducible apply below_alloc | with_reducible apply below_drw | with_reducible apply below_drew | with_reducible apply below_drewN | with_reducible apply below_plus | with_reducible apply below_set | (simp; done))
  all_goals
    have HX : Hid (0 = apX x y q px py ∧ 0 = apY x y q px py) := by simp only [Hid, apX, apY, apB, h, h']; exact ⟨rfl, rfl⟩
    go_enter Tryd.func6, Tryd.ntmps6
    go_wp2_with (first | (go_at_call 16; refine (sFrameValid_any _ _ _ _).mono ?_; rintro e w1 ⟨rfl, os, d, rfl⟩) | (go_at_call 7; refine (sPointValid_any _ _ _).mono ?_; rintro e w1 ⟨rfl, os, d, rfl⟩))
    refine bodyPost_ret (v := .agg #[.int .i64 0, .int .i64 0]) (by simp [results, Tryd.results6, go_sem]) rfl ⟨ret_p HX.out.1 HX.out.2, up_of_below ?_⟩
    repeat (first | with_reducible exact Below.refl _ _ | with_reducible apply below_alloc | with_reducible apply below_drw | with_reducible apply below_drew | with_reducible apply below_drewN | with_reducible apply below_plus | with_reducible apply below_set | (simp; done))

/-- A drawn frame. -/
def FrD (x y q : Int) : Prop := (-1000000 ≤ x ∧ x ≤ 1000000) ∧ (-1000000 ≤ y ∧ y ≤ 1000000) ∧ -1 ≤ q ∧ q ≤ 4
def DrewFrame (w : World) (b : Nat) (p : Int) (e : Ending) (w' : World) : Prop :=
  ∃ x y q, FrD x y q ∧ e = .returned (.agg #[.int .i64 x, .int .i64 y, .int .i64 q]) ∧ Gone w b p 7 w'

set_option maxHeartbeats 1000000 in
theorem l20Frame_any (b : Nat) (a : Option Addr) (n c : Nat) (p m : Int) (w : World) (hr : Rd w b a n c p) (hp : 0 ≤ p) (hp1 : p ≤ 900000) (hm : 0 ≤ m) (hm1 : m ≤ 1000000) :
    Calls Tryd.prog 11 #[.pointer (some ⟨b, 0, none⟩), .int .i64 m] w (DrewFrame w b p) := by
  have hlt := hr.lt
  have hle := Nat.le_of_lt hlt
  have h1 := hr.at_
  go_enter Tryd.func11, Tryd.ntmps11
  go_wp2_with (first | (go_at_call 23; apply Calls.mono; (focus (with_reducible apply pick2_any; (focus (repeat (first | with_reducible exact hr | (with_reducible apply Rd.base_at hs1 hB1; simp; done) | with_reducible apply Rd.plus | with_reducible apply Rd.drew | with_reducible apply Rd.drewN | with_reducible apply Rd.drw | with_reducible apply Rd.alloc | with_reducible apply Rd.set))); all_goals omega)); rintro e w1 ⟨x, d, rfl | rfl, rfl, rfl⟩) | (go_at_call 23; apply Calls.mono; (focus (apply pick_any; (focus (repeat (first | with_reducible exact hr | (with_reducible apply Rd.base_at hs1 hB1; simp; done) | with_reducible apply Rd.plus | with_reducible apply Rd.drew | with_reducible apply Rd.drewN | with_reducible apply Rd.drw | with_reducible apply Rd.alloc | with_reducible apply Rd.set))); all_goals omega)); rintro e w1 ⟨x, d, hx0, hx1, rfl, rfl⟩) | (go_at_call 24; apply Calls.mono; (focus (apply odd_any; (focus (repeat (first | with_reducible exact hr | (with_reducible apply Rd.base_at hs1 hB1; simp; done) | with_reducible apply Rd.plus | with_reducible apply Rd.drew | with_reducible apply Rd.drewN | with_reducible apply Rd.drw | with_reducible apply Rd.alloc | with_reducible apply Rd.set))); all_goals omega)); rintro e w1 ⟨t, p', d, hp0, hp1, rfl, rfl⟩; cases t))
  all_goals
    refine bodyPost_ret (v := .agg #[.int .i64 _, .int .i64 _, .int .i64 _]) (by simp [results, Tryd.results11, go_sem] <;> first | exact ⟨rfl, rfl, rfl⟩ | exact rfl) rfl ⟨_, _, _, ?_, rfl, gone ?_ ?_ ?_ ?_⟩
    rotate_left 4
    focus
      repeat (first | with_reducible exact Below.refl _ _ | with_reducible apply below_alloc | with_reducible apply below_drw | with_reducible apply below_drew | with_reducible apply below_drewN | with_reducible apply below_plus | with_reducible apply below_set | (simp; done))
    all_goals (first | omega | (unfold FrD; omega))

/-- A drawn point. -/
def PtD (x y : Int) : Prop := (-10001 ≤ x ∧ x ≤ 10001) ∧ -10001 ≤ y ∧ y ≤ 10001
def DrewPoint (w : World) (b : Nat) (p : Int) (e : Ending) (w' : World) : Prop :=
  ∃ x y, PtD x y ∧ e = .returned (.agg #[.int .i64 x, .int .i64 y]) ∧ Gone w b p 7 w'

set_option maxHeartbeats 1000000 in
theorem l20Point_any (b : Nat) (a : Option Addr) (n c : Nat) (p m : Int) (w : World) (hr : Rd w b a n c p) (hp : 0 ≤ p) (hp1 : p ≤ 900000) (hm : 0 ≤ m) (hm1 : m ≤ 1000000) :
    Calls Tryd.prog 12 #[.pointer (some ⟨b, 0, none⟩), .int .i64 m] w (DrewPoint w b p) := by
  have hlt := hr.lt
  have hle := Nat.le_of_lt hlt
  have h1 := hr.at_
  go_enter Tryd.func12, Tryd.ntmps12
  go_wp2_with (first | (go_at_call 23; apply Calls.mono; (focus (with_reducible apply pick3_any; (focus (repeat (first | with_reducible exact hr | (with_reducible apply Rd.base_at hs1 hB1; simp; done) | with_reducible apply Rd.plus | with_reducible apply Rd.drew | with_reducible apply Rd.drewN | with_reducible apply Rd.drw | with_reducible apply Rd.alloc | with_reducible apply Rd.set))); all_goals omega)); rintro e w1 ⟨x, d, rfl | rfl | rfl, rfl, rfl⟩) | (go_at_call 23; apply Calls.mono; (focus (apply pick_any; (focus (repeat (first | with_reducible exact hr | (with_reducible apply Rd.base_at hs1 hB1; simp; done) | with_reducible apply Rd.plus | with_reducible apply Rd.drew | with_reducible apply Rd.drewN | with_reducible apply Rd.drw | with_reducible apply Rd.alloc | with_reducible apply Rd.set))); all_goals omega)); rintro e w1 ⟨x, d, hx0, hx1, rfl, rfl⟩) | (go_at_call 24; apply Calls.mono; (focus (apply odd_any; (focus (repeat (first | with_reducible exact hr | (with_reducible apply Rd.base_at hs1 hB1; simp; done) | with_reducible apply Rd.plus | with_reducible apply Rd.drew | with_reducible apply Rd.drewN | with_reducible apply Rd.drw | with_reducible apply Rd.alloc | with_reducible apply Rd.set))); all_goals omega)); rintro e w1 ⟨t, p', d, hp0, hp1, rfl, rfl⟩; cases t))
  all_goals
    refine bodyPost_ret (v := .agg #[.int .i64 _, .int .i64 _]) (by simp [results, Tryd.results12, go_sem] <;> first | exact ⟨rfl, rfl⟩ | exact rfl) rfl ⟨_, _, ?_, rfl, gone ?_ ?_ ?_ ?_⟩
    rotate_left 4
    focus
      repeat (first | with_reducible exact Below.refl _ _ | with_reducible apply below_alloc | with_reducible apply below_drw | with_reducible apply below_drew | with_reducible apply below_drewN | with_reducible apply below_plus | with_reducible apply below_set | (simp; done))
    all_goals (first | omega | (unfold PtD; omega))

set_option maxHeartbeats 1000000 in
theorem drawApplyFrame_any (a : Option Addr) (n c : Nat) (w : World) (hb : Bytes w w.heap.size a n) (hnc : n ≤ c) (hcm : c ≤ maxLen) :
    Calls Tryd.prog 4 #[.slice a n c] w fun e w' => ∃ x y q x' y', FrD x y q ∧ PtD x' y' ∧ e = .returned (.tuple #[.agg #[.int .i64 x, .int .i64 y, .int .i64 q], .agg #[.int .i64 x', .int .i64 y']]) ∧ Up w w' := by
  go_enter Tryd.func4, Tryd.ntmps4
  go_wp2_with (first | (go_at_call 10; apply Calls.mono; (focus (apply open_any; (focus (apply Bytes.later hb; repeat (first | with_reducible exact Below.refl _ _ | with_reducible apply below_alloc | with_reducible apply below_drw | with_reducible apply below_drew | with_reducible apply below_drewN | with_reducible apply below_plus | with_reducible apply below_set | (simp; done)))); exact hnc; exact hcm)); rintro e w1 ⟨n1, c1, hs1, hB1, rfl, rfl⟩) | (go_at_call 11; apply Calls.mono; (focus (apply l20Frame_any; (focus (repeat (first | with_reducible exact hr | (with_reducible apply Rd.base_at hs1 hB1; simp; done) | with_reducible apply Rd.plus | with_reducible apply Rd.drew | with_reducible apply Rd.drewN | with_reducible apply Rd.drw | with_reducible apply Rd.alloc | with_reducible apply Rd.set))); all_goals omega)); rintro e w1 ⟨x, y, q, hF, rfl, p', hp0, hp1, os, d, rfl⟩))
  have hF' := hF
  clear hF
  go_region_with (first | (go_at_call 12; apply Calls.mono; (focus (apply l20Point_any; (focus (repeat (first | with_reducible exact hr | (with_reducible apply Rd.base_at hs1 hB1; simp; done) | with_reducible apply Rd.plus | with_reducible apply Rd.drew | with_reducible apply Rd.drewN | with_reducible apply Rd.drw | with_reducible apply Rd.alloc | with_reducible apply Rd.set))); all_goals omega)); rintro e w1 ⟨x', y', hG, rfl, p'', hp0', hp1', os', d', rfl⟩))
  go_goals
  all_goals
    go_wp2
    refine bodyPost_ret (v := .tuple #[.agg #[.int .i64 _, .int .i64 _, .int .i64 _], .agg #[.int .i64 _, .int .i64 _]]) (by simp [results, Tryd.results4, go_sem] <;> first | exact ⟨⟨rfl, rfl, rfl⟩, rfl, rfl⟩ | exact rfl) rfl ⟨_, _, _, _, _, hF', hG, rfl, up_of_below ?_⟩
    repeat (first | with_reducible exact Below.refl _ _ | with_reducible apply below_alloc | with_reducible apply below_drw | with_reducible apply below_drew | with_reducible apply below_drewN | with_reducible apply below_plus | with_reducible apply below_set | (simp; done))

end Go.Proofs.YtnanipehcikcjaaDoor
