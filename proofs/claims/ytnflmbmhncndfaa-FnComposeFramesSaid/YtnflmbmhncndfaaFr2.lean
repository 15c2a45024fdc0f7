/-
  Contracts of the functions that turn, invert, compose and apply frames (program and reference). Conditions: those that each theorem states.
-/
import Derived.Test.YtnflmbmhncndfaaFr
import Derived.Test.YtnflmbmhncndfaaNum0
import Derived.Lib.Hide
import Derived.LoopTactic
import Derived.Deep.RegionWith
namespace Go.Proofs.Ytnflmbmhncndfaa
open Go.RowKit

theorem ret_f {a b c d e f : Int} (h : a = b) (h' : c = d) (h'' : e = f) : Ending.returned (.agg #[.int .i64 a, .int .i64 c, .int .i64 e]) = .returned (.agg #[.int .i64 b, .int .i64 d, .int .i64 f]) := by rw [h, h', h'']
theorem ret_p {a b c d : Int} (h : a = b) (h' : c = d) : Ending.returned (.agg #[.int .i64 a, .int .i64 c]) = .returned (.agg #[.int .i64 b, .int .i64 d]) := by rw [h, h']

/-- The first and the second coordinate after q quarter turns. -/
def qx (x y q : Int) : Int := (qt q.toNat (x, y)).1
def qy (x y q : Int) : Int := (qt q.toNat (x, y)).2
theorem qxy_bd {M x y : Int} (h1 : -M ≤ x) (h2 : x ≤ M) (h3 : -M ≤ y) (h4 : y ≤ M) (q : Int) : (-M ≤ qx x y q ∧ qx x y q ≤ M) ∧ -M ≤ qy x y q ∧ qy x y q ≤ M := qt_bd M (x, y) h1 h2 h3 h4 q.toNat
theorem qx_zero (x y : Int) : qx x y 0 = x := rfl
theorem qy_zero (x y : Int) : qy x y 0 = y := rfl
theorem qx_succ {x y q : Int} (h : 0 ≤ q) : qx x y (q + 1) = -qy x y q := by unfold qx qy; rw [show (q + 1).toNat = q.toNat + 1 by omega]; rfl
theorem qy_succ {x y q : Int} (h : 0 ≤ q) : qy x y (q + 1) = qx x y q := by unfold qx qy; rw [show (q + 1).toNat = q.toNat + 1 by omega]; rfl

set_option maxHeartbeats 400000 in
theorem l17Turn_any (x y q : Int) (w : World) (hq : 0 ≤ q) (hq1 : q ≤ 1000) (h1 : -2000000 ≤ x) (h2 : x ≤ 2000000) (h3 : -2000000 ≤ y) (h4 : y ≤ 2000000) :
    Calls Try.prog 40 #[.int .i64 x, .int .i64 y, .int .i64 q] w fun e w' => e = .returned (.tuple #[.int .i64 (qx x y q), .int .i64 (qy x y q)]) ∧ w = w' := by
  go_enter Try.func40, Try.ntmps40
  go_wp2
  go_loop [0, 1, 8] (fun a b k => ∃ t : Int, 0 ≤ t ∧ t ≤ q ∧ a = .int .i64 (qx x y t) ∧ b = .int .i64 (qy x y t) ∧ k = .int .i64 t) (fun _ _ k => (q - intOf k).toNat)
  case atStart => exact ⟨0, by omega, hq, rfl, rfl, rfl⟩
  case round =>
    obtain ⟨t, ht1, ht2, rfl, rfl, rfl⟩ := hrel
    obtain ⟨⟨b1, b2⟩, b3, b4⟩ := qxy_bd h1 h2 h3 h4 t
    by_cases hlt : t < q
    · go_wp2
      go_round
      case rel => exact ⟨t + 1, by omega, by omega, by rw [qx_succ ht1], by rw [qy_succ ht1], rfl⟩
      case measure => simp [intOf]; omega
    · obtain rfl : t = q := by omega
      go_wp2
      go_ret2
      exact ⟨rfl, rfl⟩

set_option maxHeartbeats 400000 in
theorem quarter_any (x y q : Int) (w : World) (hq : 0 ≤ q) (hq1 : q ≤ 1000) (h1 : -2000000 ≤ x) (h2 : x ≤ 2000000) (h3 : -2000000 ≤ y) (h4 : y ≤ 2000000) :
    Calls Try.prog 41 #[.agg #[.int .i64 x, .int .i64 y], .int .i64 q] w fun e w' => e = .returned (.agg #[.int .i64 (qx x y q), .int .i64 (qy x y q)]) ∧ Up w w' := by
  go_enter Try.func41, Try.ntmps41
  go_wp2
  go_loopw [6] (fun k wr => ∃ t : Int, 0 ≤ t ∧ t ≤ q ∧ k = .int .i64 t ∧ wr = (w.alloc (.cells #[.int .i64 (qx x y t), .int .i64 (qy x y t)] 37)).alloc (.cells #[.int .i64 0, .int .i64 0] 37)) (fun k _ => (q - intOf k).toNat)
  case atStart => exact ⟨0, by omega, hq, rfl, rfl⟩
  case round =>
    obtain ⟨t, ht1, ht2, rfl, rfl⟩ := hrel
    obtain ⟨⟨b1, b2⟩, b3, b4⟩ := qxy_bd h1 h2 h3 h4 t
    by_cases hlt : t < q
    · go_wp2
      go_roundw
      case rel => exact ⟨t + 1, by omega, by omega, rfl, by rw [qx_succ ht1, qy_succ ht1]⟩
      case measure => simp [intOf]; omega
    · obtain rfl : t = q := by omega
      go_wp2
      refine bodyPost_ret (v := .agg #[.int .i64 (qx x y t), .int .i64 (qy x y t)]) (by simp [results, Try.results41, go_sem]) rfl ⟨rfl, up_of_below ?_⟩
      repeat (first | with_reducible exact Below.refl _ _ | with_reducible apply below_alloc | with_reducible apply below_drw | with_reducible apply below_drew | with_reducible apply below_drewN | with_reducible apply below_plus | with_reducible apply below_set | (simp; done))

/-! ### inverse -/
def ivQ (q : Int) : Int := (4 - q) % 4
def ivX (x y q : Int) : Int := qx (-x) (-y) (ivQ q)
def ivY (x y q : Int) : Int := qy (-x) (-y) (ivQ q)
def invX (x y q : Int) : Int := if frB x y q = true then ivX x y q else 0
def invY (x y q : Int) : Int := if frB x y q = true then ivY x y q else 0
def invQ (x y q : Int) : Int := if frB x y q = true then ivQ q else 0

set_option maxHeartbeats 1000000 in
theorem invert_any (x y q : Int) (w : World) :
    Calls Try.prog 18 #[.agg #[.int .i64 x, .int .i64 y, .int .i64 q]] w fun e w' => e = .returned (.agg #[.int .i64 (invX x y q), .int .i64 (invY x y q), .int .i64 (invQ x y q)]) ∧ Up w w' := by
  cases h : frB x y q
  · have HX : Hid (0 = invX x y q ∧ 0 = invY x y q ∧ 0 = invQ x y q) := by simp only [Hid, invX, invY, invQ, h]; exact ⟨rfl, rfl, rfl⟩
    go_enter Try.func18, Try.ntmps18
    go_wp2_with (go_at_call 15; refine (frameValid_any _ _ _ _).mono ?_; rintro e w1 ⟨rfl, os, d, rfl⟩)
    refine bodyPost_ret (v := .agg #[.int .i64 0, .int .i64 0, .int .i64 0]) (by simp [results, Try.results18, go_sem]) rfl ⟨ret_f HX.out.1 HX.out.2.1 HX.out.2.2, up_of_below ?_⟩
    repeat (first | with_reducible exact Below.refl _ _ | with_reducible apply below_alloc | with_reducible apply below_drw | with_reducible apply below_drew | with_reducible apply below_drewN | with_reducible apply below_plus | with_reducible apply below_set | (simp; done))
  · have HX : Hid (ivX x y q = invX x y q ∧ ivY x y q = invY x y q ∧ ivQ q = invQ x y q) := by simp only [Hid, invX, invY, invQ, h]; exact ⟨rfl, rfl, rfl⟩
    obtain ⟨⟨h1, h2⟩, ⟨h3, h4⟩, h5, h6⟩ := frB_t.1 h
    have g1 : 0 ≤ (4 - q) % 4 := by omega
    have g2 : (4 - q) % 4 ≤ 3 := by omega
    go_enter Try.func18, Try.ntmps18
    go_wp2_with (first | (go_at_call 15; refine (frameValid_any _ _ _ _).mono ?_; rintro e w1 ⟨rfl, os, d, rfl⟩) | (go_at_call 41; refine (quarter_any _ _ _ _ (by omega) (by omega) (by omega) (by omega) (by omega) (by omega)).mono ?_; rintro e w1 ⟨rfl, os, d, rfl⟩))
    refine bodyPost_ret (v := .agg #[.int .i64 (qx (-x) (-y) ((4 - q) % 4)), .int .i64 (qy (-x) (-y) ((4 - q) % 4)), .int .i64 ((4 - q) % 4)]) (by simp [results, Try.results18, go_sem]) rfl ⟨ret_f HX.out.1 HX.out.2.1 HX.out.2.2, up_of_below ?_⟩
    repeat (first | with_reducible exact Below.refl _ _ | with_reducible apply below_alloc | with_reducible apply below_drw | with_reducible apply below_drew | with_reducible apply below_drewN | with_reducible apply below_plus | with_reducible apply below_set | (simp; done))


set_option maxHeartbeats 1000000 in
theorem sInvert_any (x y q : Int) (w : World) :
    Calls Try.prog 17 #[.agg #[.int .i64 x, .int .i64 y, .int .i64 q]] w fun e w' => e = .returned (.agg #[.int .i64 (invX x y q), .int .i64 (invY x y q), .int .i64 (invQ x y q)]) ∧ Up w w' := by
  cases h : frB x y q
  · have HX : Hid (0 = invX x y q ∧ 0 = invY x y q ∧ 0 = invQ x y q) := by simp only [Hid, invX, invY, invQ, h]; exact ⟨rfl, rfl, rfl⟩
    go_enter Try.func17, Try.ntmps17
    go_wp2_with (go_at_call 13; refine (sFrameValid_any _ _ _ _).mono ?_; rintro e w1 ⟨rfl, os, d, rfl⟩)
    refine bodyPost_ret (v := .agg #[.int .i64 0, .int .i64 0, .int .i64 0]) (by simp [results, Try.results17, go_sem]) rfl ⟨ret_f HX.out.1 HX.out.2.1 HX.out.2.2, up_of_below ?_⟩
    repeat (first | with_reducible exact Below.refl _ _ | with_reducible apply below_alloc | with_reducible apply below_drw | with_reducible apply below_drew | with_reducible apply below_drewN | with_reducible apply below_plus | with_reducible apply below_set | (simp; done))
  · have HX : Hid (ivX x y q = invX x y q ∧ ivY x y q = invY x y q ∧ ivQ q = invQ x y q) := by simp only [Hid, invX, invY, invQ, h]; exact ⟨rfl, rfl, rfl⟩
    obtain ⟨⟨h1, h2⟩, ⟨h3, h4⟩, h5, h6⟩ := frB_t.1 h
    have g1 : 0 ≤ (4 - q) % 4 := by omega
    have g2 : (4 - q) % 4 ≤ 3 := by omega
    go_enter Try.func17, Try.ntmps17
    go_wp2_with (first | (go_at_call 13; refine (sFrameValid_any _ _ _ _).mono ?_; rintro e w1 ⟨rfl, os, d, rfl⟩) | (go_at_call 40; refine (l17Turn_any _ _ _ _ (by omega) (by omega) (by omega) (by omega) (by omega) (by omega)).mono ?_; rintro e w' ⟨rfl, rfl⟩))
    refine bodyPost_ret (v := .agg #[.int .i64 (qx (-x) (-y) ((4 - q) % 4)), .int .i64 (qy (-x) (-y) ((4 - q) % 4)), .int .i64 ((4 - q) % 4)]) (by simp [results, Try.results17, go_sem]) rfl ⟨ret_f HX.out.1 HX.out.2.1 HX.out.2.2, up_of_below ?_⟩
    repeat (first | with_reducible exact Below.refl _ _ | with_reducible apply below_alloc | with_reducible apply below_drw | with_reducible apply below_drew | with_reducible apply below_drewN | with_reducible apply below_plus | with_reducible apply below_set | (simp; done))

/-! ### composition -/
def coX (ax aq bx by_ : Int) : Int := ax + qx bx by_ aq
def coY (ay aq bx by_ : Int) : Int := ay + qy bx by_ aq
def coQ (aq bq : Int) : Int := (aq + bq) % 4
def coB (ax ay aq bx by_ bq : Int) : Bool := frB ax ay aq && (frB bx by_ bq && frB (coX ax aq bx by_) (coY ay aq bx by_) (coQ aq bq))
def cmX (ax ay aq bx by_ bq : Int) : Int := if coB ax ay aq bx by_ bq = true then coX ax aq bx by_ else 0
def cmY (ax ay aq bx by_ bq : Int) : Int := if coB ax ay aq bx by_ bq = true then coY ay aq bx by_ else 0
def cmQ (ax ay aq bx by_ bq : Int) : Int := if coB ax ay aq bx by_ bq = true then coQ aq bq else 0

set_option maxHeartbeats 1000000 in
theorem l17Compose_any (x y q x' y' q' : Int) (w : World) (h : frB x y q = true) (h' : frB x' y' q' = true) :
    Calls Try.prog 42 #[.agg #[.int .i64 x, .int .i64 y, .int .i64 q], .agg #[.int .i64 x', .int .i64 y', .int .i64 q']] w fun e w' => e = .returned (.agg #[.int .i64 (coX x q x' y'), .int .i64 (coY y q x' y'), .int .i64 (coQ q q')]) ∧ Up w w' := by
  obtain ⟨⟨h1, h2⟩, ⟨h3, h4⟩, h5, h6⟩ := frB_t.1 h
  obtain ⟨⟨k1, k2⟩, ⟨k3, k4⟩, k5, k6⟩ := frB_t.1 h'
  obtain ⟨⟨b1, b2⟩, b3, b4⟩ := qxy_bd k1 k2 k3 k4 q
  clear h h'
  go_enter Try.func42, Try.ntmps42
  go_wp2_with (go_at_call 40; refine (l17Turn_any _ _ _ _ (by omega) (by omega) (by omega) (by omega) (by omega) (by omega)).mono ?_; rintro e w' ⟨rfl, rfl⟩)
  refine bodyPost_ret (v := .agg #[.int .i64 (x + qx x' y' q), .int .i64 (y + qy x' y' q), .int .i64 ((q + q') % 4)]) (by simp [results, Try.results42, go_sem]) rfl ⟨rfl, up_of_below ?_⟩
  repeat (first | with_reducible exact Below.refl _ _ | with_reducible apply below_alloc | with_reducible apply below_drw | with_reducible apply below_drew | with_reducible apply below_drewN | with_reducible apply below_plus | with_reducible apply below_set | (simp; done))

set_option maxHeartbeats 1000000 in
theorem sCompose_any (x y q x' y' q' : Int) (w : World) :
    Calls Try.prog 20 #[.agg #[.int .i64 x, .int .i64 y, .int .i64 q], .agg #[.int .i64 x', .int .i64 y', .int .i64 q']] w fun e w' => e = .returned (.agg #[.int .i64 (cmX x y q x' y' q'), .int .i64 (cmY x y q x' y' q'), .int .i64 (cmQ x y q x' y' q')]) ∧ Up w w' := by
  cases h : frB x y q <;> cases h' : frB x' y' q' <;> cases h'' : frB (coX x q x' y') (coY y q x' y') (coQ q q')
  case true.true.true =>
    have HX : Hid (coX x q x' y' = cmX x y q x' y' q' ∧ coY y q x' y' = cmY x y q x' y' q' ∧ coQ q q' = cmQ x y q x' y' q') := by simp only [Hid, cmX, cmY, cmQ, coB, h, h', h'']; exact ⟨rfl, rfl, rfl⟩
    have H1 := Lib.hid h
    have H2 := Lib.hid h'
    go_enter Try.func20, Try.ntmps20
    go_wp2_with (first | (go_at_call 13; refine (sFrameValid_any _ _ _ _).mono ?_; rintro e w1 ⟨rfl, os, d, rfl⟩) | (go_at_call 42; refine (l17Compose_any _ _ _ _ _ _ _ H1.out H2.out).mono ?_; rintro e w1 ⟨rfl, os, d, rfl⟩))
    refine bodyPost_ret (v := .agg #[.int .i64 (coX x q x' y'), .int .i64 (coY y q x' y'), .int .i64 (coQ q q')]) (by simp [results, Try.results20, go_sem]) rfl ⟨ret_f HX.out.1 HX.out.2.1 HX.out.2.2, up_of_below ?_⟩
    repeat (first | with_reducible exact Below.refl _ _ | with_reducible apply below_alloc | with_reducible apply below_drw | with_reducible apply below_drew | with_reducible apply below_drewN | with_reducible apply below_plus | with_reducible apply below_set | (simp; done))
  case true.true.false =>
    have HX : Hid (0 = cmX x y q x' y' q' ∧ 0 = cmY x y q x' y' q' ∧ 0 = cmQ x y q x' y' q') := by simp only [Hid, cmX, cmY, cmQ, coB, h, h', h'']; exact ⟨rfl, rfl, rfl⟩
    have H1 := Lib.hid h
    have H2 := Lib.hid h'
    go_enter Try.func20, Try.ntmps20
    go_wp2_with (first | (go_at_call 13; refine (sFrameValid_any _ _ _ _).mono ?_; rintro e w1 ⟨rfl, os, d, rfl⟩) | (go_at_call 42; refine (l17Compose_any _ _ _ _ _ _ _ H1.out H2.out).mono ?_; rintro e w1 ⟨rfl, os, d, rfl⟩))
    refine bodyPost_ret (v := .agg #[.int .i64 0, .int .i64 0, .int .i64 0]) (by simp [results, Try.results20, go_sem]) rfl ⟨ret_f HX.out.1 HX.out.2.1 HX.out.2.2, up_of_below ?_⟩
    repeat (first | with_reducible exact Below.refl _ _ | with_reducible apply below_alloc | with_reducible apply below_drw | with_reducible apply below_drew | with_reducible apply below_drewN | with_reducible apply below_plus | with_reducible apply below_set | (simp; done))
  all_goals
    have HX : Hid (0 = cmX x y q x' y' q' ∧ 0 = cmY x y q x' y' q' ∧ 0 = cmQ x y q x' y' q') := by simp only [Hid, cmX, cmY, cmQ, coB, h, h', h'']; exact ⟨rfl, rfl, rfl⟩
    go_enter Try.func20, Try.ntmps20
    go_wp2_with (go_at_call 13; refine (sFrameValid_any _ _ _ _).mono ?_; rintro e w1 ⟨rfl, os, d, rfl⟩)
    refine bodyPost_ret (v := .agg #[.int .i64 0, .int .i64 0, .int .i64 0]) (by simp [results, Try.results20, go_sem]) rfl ⟨ret_f HX.out.1 HX.out.2.1 HX.out.2.2, up_of_below ?_⟩
    repeat (first | with_reducible exact Below.refl _ _ | with_reducible apply below_alloc | with_reducible apply below_drw | with_reducible apply below_drew | with_reducible apply below_drewN | with_reducible apply below_plus | with_reducible apply below_set | (simp; done))

set_option maxHeartbeats 1000000 in
theorem compose_any (x y q x' y' q' : Int) (w : World) :
    Calls Try.prog 21 #[.agg #[.int .i64 x, .int .i64 y, .int .i64 q], .agg #[.int .i64 x', .int .i64 y', .int .i64 q']] w fun e w' => e = .returned (.agg #[.int .i64 (cmX x y q x' y' q'), .int .i64 (cmY x y q x' y' q'), .int .i64 (cmQ x y q x' y' q')]) ∧ Up w w' := by
  cases h : frB x y q <;> cases h' : frB x' y' q'
  case true.true =>
    obtain ⟨⟨h1, h2⟩, ⟨h3, h4⟩, h5, h6⟩ := frB_t.1 h
    obtain ⟨⟨k1, k2⟩, ⟨k3, k4⟩, k5, k6⟩ := frB_t.1 h'
    obtain ⟨⟨b1, b2⟩, b3, b4⟩ := qxy_bd k1 k2 k3 k4 q
    cases h'' : frB (x + qx x' y' q) (y + qy x' y' q) ((q + q') % 4)
    · have HX : Hid (0 = cmX x y q x' y' q' ∧ 0 = cmY x y q x' y' q' ∧ 0 = cmQ x y q x' y' q') := by simp only [Hid, cmX, cmY, cmQ, coB, coX, coY, coQ, h, h', h'']; exact ⟨rfl, rfl, rfl⟩
      go_enter Try.func21, Try.ntmps21
      go_wp2_with (first | (go_at_call 15; refine (frameValid_any _ _ _ _).mono ?_; rintro e w1 ⟨rfl, os, d, rfl⟩) | (go_at_call 41; refine (quarter_any _ _ _ _ (by omega) (by omega) (by omega) (by omega) (by omega) (by omega)).mono ?_; rintro e w1 ⟨rfl, os, d, rfl⟩))
      refine bodyPost_ret (v := .agg #[.int .i64 0, .int .i64 0, .int .i64 0]) (by simp [results, Try.results21, go_sem]) rfl ⟨ret_f HX.out.1 HX.out.2.1 HX.out.2.2, up_of_below ?_⟩
      repeat (first | with_reducible exact Below.refl _ _ | with_reducible apply below_alloc | with_reducible apply below_drw | with_reducible apply below_drew | with_reducible apply below_drewN | with_reducible apply below_plus | with_reducible apply below_set | (simp; done))
    · have HX : Hid (x + qx x' y' q = cmX x y q x' y' q' ∧ y + qy x' y' q = cmY x y q x' y' q' ∧ (q + q') % 4 = cmQ x y q x' y' q') := by simp only [Hid, cmX, cmY, cmQ, coB, coX, coY, coQ, h, h', h'']; exact ⟨rfl, rfl, rfl⟩
      go_enter Try.func21, Try.ntmps21
      go_wp2_with (first | (go_at_call 15; refine (frameValid_any _ _ _ _).mono ?_; rintro e w1 ⟨rfl, os, d, rfl⟩) | (go_at_call 41; refine (quarter_any _ _ _ _ (by omega) (by omega) (by omega) (by omega) (by omega) (by omega)).mono ?_; rintro e w1 ⟨rfl, os, d, rfl⟩))
      refine bodyPost_ret (v := .agg #[.int .i64 (x + qx x' y' q), .int .i64 (y + qy x' y' q), .int .i64 ((q + q') % 4)]) (by simp [results, Try.results21, go_sem]) rfl ⟨ret_f HX.out.1 HX.out.2.1 HX.out.2.2, up_of_below ?_⟩
      repeat (first | with_reducible exact Below.refl _ _ | with_reducible apply below_alloc | with_reducible apply below_drw | with_reducible apply below_drew | with_reducible apply below_drewN | with_reducible apply below_plus | with_reducible apply below_set | (simp; done))
  all_goals
    have HX : Hid (0 = cmX x y q x' y' q' ∧ 0 = cmY x y q x' y' q' ∧ 0 = cmQ x y q x' y' q') := by simp only [Hid, cmX, cmY, cmQ, coB, h, h', Bool.false_and, Bool.and_false]; exact ⟨rfl, rfl, rfl⟩
    go_enter Try.func21, Try.ntmps21
    go_wp2_with (go_at_call 15; refine (frameValid_any _ _ _ _).mono ?_; rintro e w1 ⟨rfl, os, d, rfl⟩)
    refine bodyPost_ret (v := .agg #[.int .i64 0, .int .i64 0, .int .i64 0]) (by simp [results, Try.results21, go_sem]) rfl ⟨ret_f HX.out.1 HX.out.2.1 HX.out.2.2, up_of_below ?_⟩
    repeat (first | with_reducible exact Below.refl _ _ | with_reducible apply below_alloc | with_reducible apply below_drw | with_reducible apply below_drew | with_reducible apply below_drewN | with_reducible apply below_plus | with_reducible apply below_set | (simp; done))

/-! ### application -/
def apB (x y q px py : Int) : Bool := frB x y q && ptB px py
def apX (x y q px py : Int) : Int := if apB x y q px py = true then x + qx px py q else 0
def apY (x y q px py : Int) : Int := if apB x y q px py = true then y + qy px py q else 0

set_option maxHeartbeats 400000 in
theorem pointValid_any (x y : Int) (w : World) :
    Calls Try.prog 35 #[.agg #[.int .i64 x, .int .i64 y]] w fun e w' => e = .returned (.bool (ptB x y)) ∧ Up w w' := by
  cases h1 : inB x (-10000) 10000 <;> cases h2 : inB y (-10000) 10000 <;>
  · obtain ⟨b, KB⟩ : ∃ b, b = ptB x y := ⟨_, rfl⟩
    have KV := KB
    rw [ptB, h1, h2] at KV
    subst KV
    have KK := Lib.hid KB
    clear KB
    go_enter Try.func35, Try.ntmps35
    go_wp2_with (go_at_call 37; refine (within_any _ _ _ _).mono ?_; rintro e w' ⟨rfl, rfl⟩)
    go_ret
    exact ⟨ret_bool KK.out, up_of_below (by repeat (first | with_reducible exact Below.refl _ _ | with_reducible apply below_alloc | with_reducible apply below_drw | with_reducible apply below_drew | with_reducible apply below_drewN | with_reducible apply below_plus | with_reducible apply below_set | (simp; done)))⟩


set_option maxHeartbeats 400000 in
theorem sPointValid_any (x y : Int) (w : World) :
    Calls Try.prog 31 #[.agg #[.int .i64 x, .int .i64 y]] w fun e w' => e = .returned (.bool (ptB x y)) ∧ Up w w' := by
  cases h1 : inB x (-10000) 10000 <;> cases h2 : inB y (-10000) 10000 <;>
  · obtain ⟨b, KB⟩ : ∃ b, b = ptB x y := ⟨_, rfl⟩
    have KV := KB
    rw [ptB, h1, h2] at KV
    subst KV
    have KK := Lib.hid KB
    clear KB
    go_enter Try.func31, Try.ntmps31
    go_wp2_with (go_at_call 36; refine (l1In_any _ _ _ _).mono ?_; rintro e w' ⟨rfl, rfl⟩)
    go_ret
    exact ⟨ret_bool KK.out, up_of_below (by repeat (first | with_reducible exact Below.refl _ _ | with_reducible apply below_alloc | with_reducible apply below_drw | with_reducible apply below_drew | with_reducible apply below_drewN | with_reducible apply below_plus | with_reducible apply below_set | (simp; done)))⟩

set_option maxHeartbeats 1000000 in
theorem apply_any (x y q px py : Int) (w : World) :
    Calls Try.prog 24 #[.agg #[.int .i64 x, .int .i64 y, .int .i64 q], .agg #[.int .i64 px, .int .i64 py]] w fun e w' => e = .returned (.agg #[.int .i64 (apX x y q px py), .int .i64 (apY x y q px py)]) ∧ Up w w' := by
  cases h : frB x y q <;> cases h' : ptB px py
  case true.true =>
    have HX : Hid (x + qx px py q = apX x y q px py ∧ y + qy px py q = apY x y q px py) := by simp only [Hid, apX, apY, apB, h, h']; exact ⟨rfl, rfl⟩
    obtain ⟨⟨h1, h2⟩, ⟨h3, h4⟩, h5, h6⟩ := frB_t.1 h
    obtain ⟨⟨k1, k2⟩, k3, k4⟩ := ptB_t.1 h'
    obtain ⟨⟨b1, b2⟩, b3, b4⟩ := qxy_bd k1 k2 k3 k4 q
    go_enter Try.func24, Try.ntmps24
    go_wp2_with (first | (go_at_call 15; refine (frameValid_any _ _ _ _).mono ?_; rintro e w1 ⟨rfl, os, d, rfl⟩) | (go_at_call 35; refine (pointValid_any _ _ _).mono ?_; rintro e w1 ⟨rfl, os, d, rfl⟩) | (go_at_call 41; refine (quarter_any _ _ _ _ (by omega) (by omega) (by omega) (by omega) (by omega) (by omega)).mono ?_; rintro e w1 ⟨rfl, os, d, rfl⟩))
    refine bodyPost_ret (v := .agg #[.int .i64 (x + qx px py q), .int .i64 (y + qy px py q)]) (by simp [results, Try.results24, go_sem]) rfl ⟨ret_p HX.out.1 HX.out.2, up_of_below ?_⟩
    repeat (first | with_reducible exact Below.refl _ _ | with_reducible apply below_alloc | with_reducible apply below_drw | with_reducible apply below_drew | with_reducible apply below_drewN | with_reducible apply below_plus | with_reducible apply below_set | (simp; done))
  all_goals
    have HX : Hid (0 = apX x y q px py ∧ 0 = apY x y q px py) := by simp only [Hid, apX, apY, apB, h, h']; exact ⟨rfl, rfl⟩
    go_enter Try.func24, Try.ntmps24
    go_wp2_with (first | (go_at_call 15; refine (frameValid_any _ _ _ _).mono ?_; rintro e w1 ⟨rfl, os, d, rfl⟩) | (go_at_call 35; refine (pointValid_any _ _ _).mono ?_; rintro e w1 ⟨rfl, os, d, rfl⟩))
    refine bodyPost_ret (v := .agg #[.int .i64 0, .int .i64 0]) (by simp [results, Try.results24, go_sem]) rfl ⟨ret_p HX.out.1 HX.out.2, up_of_below ?_⟩
    repeat (first | with_reducible exact Below.refl _ _ | with_reducible apply below_alloc | with_reducible apply below_drw | with_reducible apply below_drew | with_reducible apply below_drewN | with_reducible apply below_plus | with_reducible apply below_set | (simp; done))


set_option maxHeartbeats 1000000 in
theorem sApply_any (x y q px py : Int) (w : World) :
    Calls Try.prog 22 #[.agg #[.int .i64 x, .int .i64 y, .int .i64 q], .agg #[.int .i64 px, .int .i64 py]] w fun e w' => e = .returned (.agg #[.int .i64 (apX x y q px py), .int .i64 (apY x y q px py)]) ∧ Up w w' := by
  cases h : frB x y q <;> cases h' : ptB px py
  case true.true =>
    have HX : Hid (x + qx px py q = apX x y q px py ∧ y + qy px py q = apY x y q px py) := by simp only [Hid, apX, apY, apB, h, h']; exact ⟨rfl, rfl⟩
    obtain ⟨⟨h1, h2⟩, ⟨h3, h4⟩, h5, h6⟩ := frB_t.1 h
    obtain ⟨⟨k1, k2⟩, k3, k4⟩ := ptB_t.1 h'
    obtain ⟨⟨b1, b2⟩, b3, b4⟩ := qxy_bd k1 k2 k3 k4 q
    go_enter Try.func22, Try.ntmps22
    go_wp2_with (first | (go_at_call 13; refine (sFrameValid_any _ _ _ _).mono ?_; rintro e w1 ⟨rfl, os, d, rfl⟩) | (go_at_call 31; refine (sPointValid_any _ _ _).mono ?_; rintro e w1 ⟨rfl, os, d, rfl⟩) | (go_at_call 40; refine (l17Turn_any _ _ _ _ (by omega) (by omega) (by omega) (by omega) (by omega) (by omega)).mono ?_; rintro e w' ⟨rfl, rfl⟩))
    refine bodyPost_ret (v := .agg #[.int .i64 (x + qx px py q), .int .i64 (y + qy px py q)]) (by simp [results, Try.results22, go_sem]) rfl ⟨ret_p HX.out.1 HX.out.2, up_of_below ?_⟩
    repeat (first | with_reducible exact Below.refl _ _ | with_reducible apply below_alloc | with_reducible apply below_drw | with_reducible apply below_drew | with_reducible apply below_drewN | with_reducible apply below_plus | with_reducible apply below_set | (simp; done))
  all_goals
    have HX : Hid (0 = apX x y q px py ∧ 0 = apY x y q px py) := by simp only [Hid, apX, apY, apB, h, h']; exact ⟨rfl, rfl⟩
    go_enter Try.func22, Try.ntmps22
    go_wp2_with (first | (go_at_call 13; refine (sFrameValid_any _ _ _ _).mono ?_; rintro e w1 ⟨rfl, os, d, rfl⟩) | (go_at_call 31; refine (sPointValid_any _ _ _).mono ?_; rintro e w1 ⟨rfl, os, d, rfl⟩))
    refine bodyPost_ret (v := .agg #[.int .i64 0, .int .i64 0]) (by simp [results, Try.results22, go_sem]) rfl ⟨ret_p HX.out.1 HX.out.2, up_of_below ?_⟩
    repeat (first | with_reducible exact Below.refl _ _ | with_reducible apply below_alloc | with_reducible apply below_drw | with_reducible apply below_drew | with_reducible apply below_drewN | with_reducible apply below_plus | with_reducible apply below_set | (simp; done))

/-! ### the laws' own helpers -/
set_option maxHeartbeats 400000 in
theorem toPoint_any (x y : Int) (w : World) :
    Calls Try.prog 23 #[.agg #[.int .i64 x, .int .i64 y]] w fun e w' => e = .returned (.agg #[.int .i64 x, .int .i64 y]) ∧ Up w w' := by
  go_enter Try.func23, Try.ntmps23
  go_wp2
  refine bodyPost_ret (v := .agg #[.int .i64 x, .int .i64 y]) (by simp [results, Try.results23, go_sem]) rfl ⟨rfl, up_of_below ?_⟩
  repeat (first | with_reducible exact Below.refl _ _ | with_reducible apply below_alloc | with_reducible apply below_drw | with_reducible apply below_drew | with_reducible apply below_drewN | with_reducible apply below_plus | with_reducible apply below_set | (simp; done))
set_option maxHeartbeats 400000 in
theorem eqPoint_any (x y x' y' : Int) (w : World) (hx : x = x') (hy : y = y') :
    Calls Try.prog 25 #[.agg #[.int .i64 x, .int .i64 y], .agg #[.int .i64 x', .int .i64 y']] w fun e w' => e = .returned (.bool true) ∧ Up w w' := by
  subst hx hy
  go_enter Try.func25, Try.ntmps25
  go_wp2
  go_ret
  exact ⟨rfl, up_of_below (by repeat (first | with_reducible exact Below.refl _ _ | with_reducible apply below_alloc | with_reducible apply below_drw | with_reducible apply below_drew | with_reducible apply below_drewN | with_reducible apply below_plus | with_reducible apply below_set | (simp; done)))⟩
set_option maxHeartbeats 400000 in
theorem eqFrame_any (x y q x' y' q' : Int) (w : World) (hx : x = x') (hy : y = y') (hq : q = q') :
    Calls Try.prog 19 #[.agg #[.int .i64 x, .int .i64 y, .int .i64 q], .agg #[.int .i64 x', .int .i64 y', .int .i64 q']] w fun e w' => e = .returned (.bool true) ∧ Up w w' := by
  subst hx hy hq
  go_enter Try.func19, Try.ntmps19
  go_wp2
  go_ret
  exact ⟨rfl, up_of_below (by repeat (first | with_reducible exact Below.refl _ _ | with_reducible apply below_alloc | with_reducible apply below_drw | with_reducible apply below_drew | with_reducible apply below_drewN | with_reducible apply below_plus | with_reducible apply below_set | (simp; done)))⟩

set_option maxHeartbeats 400000 in
theorem exactInvertFrame_any (x y q : Int) (w : World) :
    Calls Try.prog 5 #[.agg #[.int .i64 x, .int .i64 y, .int .i64 q]] w fun e w' => e = .returned (.bool true) ∧ Up w w' := by
  go_enter Try.func5, Try.ntmps5
  go_wp2_with (first | (go_at_call 14; refine (toFrame_any _ _ _ _).mono ?_; rintro e w1 ⟨rfl, os, d, rfl⟩) | (go_at_call 17; refine (sInvert_any _ _ _ _).mono ?_; rintro e w1 ⟨rfl, os, d, rfl⟩) | (go_at_call 18; refine (invert_any _ _ _ _).mono ?_; rintro e w1 ⟨rfl, os, d, rfl⟩) | (go_at_call 19; refine (eqFrame_any _ _ _ _ _ _ _ rfl rfl rfl).mono ?_; rintro e w1 ⟨rfl, os, d, rfl⟩))
  go_ret
  exact ⟨rfl, up_of_below (by repeat (first | with_reducible exact Below.refl _ _ | with_reducible apply below_alloc | with_reducible apply below_drw | with_reducible apply below_drew | with_reducible apply below_drewN | with_reducible apply below_plus | with_reducible apply below_set | (simp; done)))⟩
end Go.Proofs.Ytnflmbmhncndfaa
