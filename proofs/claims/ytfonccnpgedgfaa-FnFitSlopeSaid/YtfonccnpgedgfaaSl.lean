/-
  Contracts of the functions on slopes (program and reference). Conditions: those that each theorem states.
-/
import Derived.Test.YtfonccnpgedgfaaPf
namespace Go.Proofs.Ytfonccnpgedgfaa
open Go.RowKit

theorem prod_bd {x y A : Int} (x1 : -A ≤ x) (x2 : x ≤ A) (y1 : -A ≤ y) (y2 : y ≤ A) : -(A * A) ≤ x * y ∧ x * y ≤ A * A := by
  have h1 := sq_bd (x := x + y) (A := 2 * A) (by omega) (by omega)
  have h2 := sq_bd (x := x - y) (A := 2 * A) (by omega) (by omega)
  have e1 : (x + y) * (x + y) - (x - y) * (x - y) = 4 * (x * y) := by grind
  have e2 : (2 * A) * (2 * A) = 4 * (A * A) := by grind
  generalize (x + y) * (x + y) = p at *
  generalize (x - y) * (x - y) = q at *
  generalize x * y = r at *
  generalize A * A = s at *
  omega
theorem scal_bd {n : Nat} {s B : Int} (h : n ≤ 20) (h1 : -B ≤ s) (h2 : s ≤ B) : -(20 * B) ≤ n * s ∧ n * s ≤ 20 * B := by
  have hB : 0 ≤ B := by omega
  have a1 : (n : Int) * s ≤ n * B := Int.mul_le_mul_of_nonneg_left h2 (by omega)
  have a2 : (n : Int) * B ≤ 20 * B := Int.mul_le_mul_of_nonneg_right (by omega) hB
  have a3 : (n : Int) * (-B) ≤ n * s := Int.mul_le_mul_of_nonneg_left h1 (by omega)
  rw [Int.mul_neg] at a3
  omega
theorem ret_ii {a b c d : Int} (h : a = b) (h' : c = d) : Ending.returned (.tuple #[.int .i64 a, .int .i64 c]) = .returned (.tuple #[.int .i64 b, .int .i64 d]) := by rw [h, h']

set_option maxHeartbeats 400000 in
theorem gcdN_any (a b : Nat) (w : World) (h1 : a ≤ 1000000000000) (h2 : b ≤ 1000000000000) :
    Calls Try.prog 48 #[.int .i64 a, .int .i64 b] w fun e w' => e = .returned (.int .i64 (Nat.gcd a b : Nat)) ∧ ∃ d, w' = drw w d := by
  go_enter Try.func48, Try.ntmps48
  go_wp2
  go_loopw [0, 1] (fun u v wr => ∃ x y : Nat, x ≤ 1000000000000 ∧ y ≤ 1000000000000 ∧ u = .int .i64 x ∧ v = .int .i64 y ∧ Hid (Nat.gcd x y = Nat.gcd a b) ∧ ∃ d, wr = drw w d) (fun _ v _ => (intOf v).toNat)
  case atStart => exact ⟨a, b, h1, h2, rfl, rfl, rfl, _, drw_id.symm⟩
  case round =>
    obtain ⟨x, y, hx, hy, rfl, rfl, HG, d, rfl⟩ := hrel
    by_cases h0 : y = 0
    · subst h0
      have HE : Hid (x = Nat.gcd a b) := by show x = _; rw [← HG.out]; simp
      go_wp2
      go_ret
      exact ⟨by rw [← HE.out]; rfl, _, rfl⟩
    · have hz : ((y : Int) == 0) = false := by simp; omega
      have hp : (0 : Int) < (y : Int) := by omega
      have e1 : (x : Int).tmod (y : Int) = ((x % y : Nat) : Int) := by rw [Int.tmod_eq_emod_of_nonneg (by omega)]; simp
      have hm := Nat.mod_lt x (y := y) (by omega)
      have HE : Hid (Nat.gcd y (x % y) = Nat.gcd a b) := by
        show Nat.gcd y (x % y) = _
        rw [← HG.out, Nat.gcd_comm x y, Nat.gcd_rec y x, Nat.gcd_comm]
      generalize x % y = z at e1 hm HE
      have e2 : IntKind.i64.wrap (z : Int) = z := IntWalk.i64_in _ (by omega)
      go_wp2
      try (go_quiet (fail); go_wp2)
      go_roundw
      case rel => exact ⟨y, z, hy, by omega, rfl, rfl, HE, _, rfl⟩
      case measure => simp [intOf]; omega
theorem gcdN_any' (a b : Int) (w : World) (h0 : 0 ≤ a) (h1 : a ≤ 1000000000000) (h2 : 0 ≤ b) (h3 : b ≤ 1000000000000) :
    Calls Try.prog 48 #[.int .i64 a, .int .i64 b] w fun e w' => e = .returned (.int .i64 (Int.gcd a b : Nat)) ∧ ∃ d, w' = drw w d := by
  obtain ⟨x, rfl⟩ := Int.eq_ofNat_of_zero_le h0
  obtain ⟨y, rfl⟩ := Int.eq_ofNat_of_zero_le h2
  exact gcdN_any x y w (by omega) (by omega)

set_option maxHeartbeats 400000 in
theorem sGcdN_any (a b : Nat) (w : World) (h1 : a ≤ 1000000000000) (h2 : b ≤ 1000000000000) :
    Calls Try.prog 47 #[.int .i64 a, .int .i64 b] w fun e w' => e = .returned (.int .i64 (Nat.gcd a b : Nat)) ∧ ∃ d, w' = drw w d := by
  go_enter Try.func47, Try.ntmps47
  go_wp2
  go_loopw [0, 1] (fun u v wr => ∃ x y : Nat, x ≤ 1000000000000 ∧ y ≤ 1000000000000 ∧ u = .int .i64 x ∧ v = .int .i64 y ∧ Hid (Nat.gcd x y = Nat.gcd a b) ∧ ∃ d, wr = drw w d) (fun _ v _ => (intOf v).toNat)
  case atStart => exact ⟨a, b, h1, h2, rfl, rfl, rfl, _, drw_id.symm⟩
  case round =>
    obtain ⟨x, y, hx, hy, rfl, rfl, HG, d, rfl⟩ := hrel
    by_cases h0 : y = 0
    · subst h0
      have HE : Hid (x = Nat.gcd a b) := by show x = _; rw [← HG.out]; simp
      go_wp2
      go_ret
      exact ⟨by rw [← HE.out]; rfl, _, rfl⟩
    · have hz : ((y : Int) == 0) = false := by simp; omega
      have hp : (0 : Int) < (y : Int) := by omega
      have e1 : (x : Int).tmod (y : Int) = ((x % y : Nat) : Int) := by rw [Int.tmod_eq_emod_of_nonneg (by omega)]; simp
      have hm := Nat.mod_lt x (y := y) (by omega)
      have HE : Hid (Nat.gcd y (x % y) = Nat.gcd a b) := by
        show Nat.gcd y (x % y) = _
        rw [← HG.out, Nat.gcd_comm x y, Nat.gcd_rec y x, Nat.gcd_comm]
      generalize x % y = z at e1 hm HE
      have e2 : IntKind.i64.wrap (z : Int) = z := IntWalk.i64_in _ (by omega)
      go_wp2
      try (go_quiet (fail); go_wp2)
      go_roundw
      case rel => exact ⟨y, z, hy, by omega, rfl, rfl, HE, _, rfl⟩
      case measure => simp [intOf]; omega
theorem sGcdN_any' (a b : Int) (w : World) (h0 : 0 ≤ a) (h1 : a ≤ 1000000000000) (h2 : 0 ≤ b) (h3 : b ≤ 1000000000000) :
    Calls Try.prog 47 #[.int .i64 a, .int .i64 b] w fun e w' => e = .returned (.int .i64 (Int.gcd a b : Nat)) ∧ ∃ d, w' = drw w d := by
  obtain ⟨x, rfl⟩ := Int.eq_ofNat_of_zero_le h0
  obtain ⟨y, rfl⟩ := Int.eq_ofNat_of_zero_le h2
  exact sGcdN_any x y w (by omega) (by omega)

/-- What the sums of valid pairs are bounded by. -/
theorem sums_bd {zs : List Int} {n : Nat} (hn : n ≤ 20) (h : ∀ j, j < n → okP zs j = true) :
    (-20000 ≤ sX zs n ∧ sX zs n ≤ 20000) ∧ (-20000 ≤ sY zs n ∧ sY zs n ≤ 20000) ∧ (0 ≤ sXX zs n ∧ sXX zs n ≤ 20000000) ∧ -20000000 ≤ sXY zs n ∧ sXY zs n ≤ 20000000 := by
  have b0 := fun j hj => okP_t.1 (h j hj)
  have h1 : _ ≤ sX zs n ∧ sX zs n ≤ _ := sumN_bd (fun j hj => (b0 j hj).1)
  have h2 : _ ≤ sY zs n ∧ sY zs n ≤ _ := sumN_bd (fun j hj => (b0 j hj).2)
  have h3 : _ ≤ sXX zs n ∧ sXX zs n ≤ _ := sumN_bd (A := 0) (B := 1000000) (fun j hj => sq_bd (A := 1000) (b0 j hj).1.1 (b0 j hj).1.2)
  have h4 : _ ≤ sXY zs n ∧ sXY zs n ≤ _ := sumN_bd (A := -1000000) (B := 1000000) (fun j hj => prod_bd (A := 1000) (b0 j hj).1.1 (b0 j hj).1.2 (b0 j hj).2.1 (b0 j hj).2.2)
  omega
theorem slope_bad {zs : List Int} {n : Nat} (h : pairsB n zs = false) : slU zs n = 0 ∧ slD zs n = 0 := by simp [slU, slD, slopeB, h]
theorem slope_flat {zs : List Int} {n : Nat} (h : downF zs n = 0) : slU zs n = 0 ∧ slD zs n = 0 := by simp [slU, slD, slopeB, h]
theorem slope_good {zs : List Int} {n : Nat} (hp : pairsB n zs = true) (h : downF zs n ≠ 0) : slU zs n = (upF zs n).tdiv (gcdP zs n) ∧ slD zs n = (downF zs n).tdiv (gcdP zs n) := by
  have hs : slopeB zs n = true := slopeB_t.2 ⟨hp, h⟩
  have g1 : gcdP zs n ∣ upF zs n := Int.gcd_dvd_left ..
  have g2 : gcdP zs n ∣ downF zs n := Int.gcd_dvd_right ..
  unfold slU slD
  rw [if_pos hs, if_pos hs, Int.tdiv_eq_ediv_of_dvd g1, Int.tdiv_eq_ediv_of_dvd g2]
  exact ⟨rfl, rfl⟩

set_option maxHeartbeats 4000000 in
theorem slope_any (a : Option Addr) (n c : Nat) (zs : List Int) (w : World) (hz : zs.length = n * 2) (hi : Ints w a zs) (hn : n ≤ 1000000000) :
    Calls Try.prog 26 #[.slice a n c] w fun e w' => e = .returned (.tuple #[.int .i64 (slU zs n), .int .i64 (slD zs n)]) ∧ Up w w' := by
  have hv := fun W h => valid_any a n c zs W hz h hn
  cases hp : pairsB n zs <;> rw [hp] at hv
  · have HF := Lib.hid (slope_bad hp)
    go_enter Try.func26, Try.ntmps26
    go_wp2_with (first | (go_at_call 16; refine (hv _ hi).mono ?_; rintro e w1 ⟨rfl, os, d, rfl⟩) | (go_at_call 16; refine (hv _ hi).mono ?_; rintro e w1 ⟨rfl, rfl⟩))
    go_ret2
    exact ⟨ret_ii HF.out.1.symm HF.out.2.symm, up_of_below (by repeat (first | with_reducible exact Below.refl _ _ | with_reducible apply below_alloc | with_reducible apply below_drw | with_reducible apply below_drew | with_reducible apply below_drewN | with_reducible apply below_plus | with_reducible apply below_set | (simp; done)))⟩
  · have HV := Lib.hid hp
    have HP := Lib.hid (pairsB_t.1 hp)
    have HI := Lib.hid hi
    have HZ := Lib.hid hz
    have hn20 := HP.out.1.2
    have hn1 := HP.out.1.1
    go_enter Try.func26, Try.ntmps26
    go_wp2_with (first | (go_at_call 16; refine (hv _ hi).mono ?_; rintro e w1 ⟨rfl, os, d, rfl⟩) | (go_at_call 16; refine (hv _ hi).mono ?_; rintro e w1 ⟨rfl, rfl⟩))
    clear hp hi hz hv
    go_loopw [5, 6, 7, 8, 21] (fun s t q r iv wr => ∃ j : Nat, j ≤ n ∧ iv = .int .i64 j ∧ s = .int .i64 (sX zs j) ∧ t = .int .i64 (sY zs j) ∧ q = .int .i64 (sXX zs j) ∧ r = .int .i64 (sXY zs j) ∧ ∃ os d, wr = plus w os d) (fun _ _ _ _ iv _ => n - (intOf iv).toNat)
    case atStart => exact ⟨0, Nat.zero_le _, rfl, rfl, rfl, rfl, rfl, by first | exact ⟨_, _, rfl⟩ | exact ⟨#[], _, plus_id.symm⟩⟩
    case round =>
      obtain ⟨j, hj, rfl, rfl, rfl, rfl, rfl, os, d, rfl⟩ := hrel
      by_cases hlt : j < n
      · have hlt' : (j : Int) < (n : Int) := by omega
        obtain ⟨blk, off, rfl, hb, c0, c1⟩ := HI.out.pair HZ.out hlt
        have hD := HP.out.2 j hlt
        have hx := (okP_t.1 hD).1
        have hy := (okP_t.1 hD).2
        have hs := sums_bd (zs := zs) (n := j) (by omega) (fun i hi => HP.out.2 i (by omega))
        have H1 : Hid (sX zs (j + 1) = sX zs j + pX zs j) := rfl
        have H2 : Hid (sY zs (j + 1) = sY zs j + pY zs j) := rfl
        have H3 : Hid (sXX zs (j + 1) = sXX zs j + pX zs j * pX zs j) := rfl
        have H4 : Hid (sXY zs (j + 1) = sXY zs j + pX zs j * pY zs j) := rfl
        generalize pX zs j = x at c0 hx H1 H3 H4
        generalize pY zs j = y at c1 hy H2 H4
        generalize sX zs j = u1 at H1 hs ⊢
        generalize sY zs j = u2 at H2 hs ⊢
        generalize sXX zs j = u3 at H3 hs ⊢
        generalize sXY zs j = u4 at H4 hs ⊢
        have q1 := sq_bd (x := x) (A := 1000) hx.1 hx.2
        have q2 := prod_bd (x := x) (y := y) (A := 1000) hx.1 hx.2 hy.1 hy.2
        have w1 : IntKind.i64.wrap (u1 + x) = u1 + x := IntWalk.i64_in _ (by omega)
        have w2 : IntKind.i64.wrap (u2 + y) = u2 + y := IntWalk.i64_in _ (by omega)
        have w3 : IntKind.i64.wrap (x * x) = x * x := IntWalk.i64_in _ (by omega)
        have w4 : IntKind.i64.wrap (x * y) = x * y := IntWalk.i64_in _ (by omega)
        have w5 : IntKind.i64.wrap (u3 + x * x) = u3 + x * x := IntWalk.i64_in _ (by omega)
        have w6 : IntKind.i64.wrap (u4 + x * y) = u4 + x * y := IntWalk.i64_in _ (by omega)
        clear hD hs q1 q2
        go_wp2
        go_roundw
        case rel => exact ⟨j + 1, by omega, by go_num, by rw [H1.out], by rw [H2.out], by rw [H3.out], by rw [H4.out], up_of_below (by repeat (first | with_reducible exact Below.refl _ _ | with_reducible apply below_alloc | with_reducible apply below_drw | with_reducible apply below_drew | with_reducible apply below_drewN | with_reducible apply below_plus | with_reducible apply below_set | (simp; done)))⟩
        case measure => simp [intOf]; omega
      · have hlt' : ¬ (j : Int) < (n : Int) := by omega
        obtain rfl : j = n := by omega
        have hs := sums_bd (zs := zs) (n := j) (by omega) HP.out.2
        have HU : Hid (upF zs j = j * sXY zs j - sX zs j * sY zs j) := rfl
        have HD : Hid (downF zs j = j * sXX zs j - sX zs j * sX zs j) := rfl
        have hdn := downF_nonneg zs j
        have HG := Lib.hid (slope_good (zs := zs) (n := j) HV.out)
        have HB := Lib.hid (slope_flat (zs := zs) (n := j))
        have hgp := gcdP_pos (zs := zs) (n := j)
        have hgu : gcdP zs j = (Int.gcd (upF zs j) (downF zs j) : Nat) := rfl
        generalize sX zs j = u1 at HU HD hs ⊢
        generalize sY zs j = u2 at HU hs ⊢
        generalize sXX zs j = u3 at HD hs ⊢
        generalize sXY zs j = u4 at HU hs ⊢
        have q1 := prod_bd (x := u1) (y := u2) (A := 20000) (by omega) (by omega) (by omega) (by omega)
        have q2 := sq_bd (x := u1) (A := 20000) (by omega) (by omega)
        have q3 := scal_bd (n := j) (s := u4) (B := 20000000) hn20 (by omega) (by omega)
        have q4 := scal_bd (n := j) (s := u3) (B := 20000000) hn20 (by omega) (by omega)
        have w1 : IntKind.i64.wrap ((j : Int) * u4) = j * u4 := IntWalk.i64_in _ (by omega)
        have w2 : IntKind.i64.wrap (u1 * u2) = u1 * u2 := IntWalk.i64_in _ (by omega)
        have w3 : IntKind.i64.wrap ((j : Int) * u3) = j * u3 := IntWalk.i64_in _ (by omega)
        have w4 : IntKind.i64.wrap (u1 * u1) = u1 * u1 := IntWalk.i64_in _ (by omega)
        have hU := HU.out
        have hD := HD.out
        generalize upF zs j = U at hU hgu HG HU
        generalize downF zs j = D at hD hgu HG HB HD hgp hdn
        generalize gcdP zs j = G at hgu HG hgp
        have w5 : IntKind.i64.wrap ((j : Int) * u4 - u1 * u2) = U := (IntWalk.i64_in _ (by omega)).trans hU.symm
        have w6 : IntKind.i64.wrap ((j : Int) * u3 - u1 * u1) = D := (IntWalk.i64_in _ (by omega)).trans hD.symm
        have bU : -800000000 ≤ U ∧ U ≤ 800000000 := by omega
        have bD : D ≤ 800000000 := by omega
        clear hU hD q1 q2 q3 q4 hs HU HD
        by_cases hd0 : D = 0
        · subst hd0
          have HR := Lib.hid (HB.out rfl)
          clear HB HG hgp hdn
          go_wp2
          go_ret2
          exact ⟨ret_ii HR.out.1.symm HR.out.2.symm, up_of_below (by repeat (first | with_reducible exact Below.refl _ _ | with_reducible apply below_alloc | with_reducible apply below_drw | with_reducible apply below_drew | with_reducible apply below_drewN | with_reducible apply below_plus | with_reducible apply below_set | (simp; done)))⟩
        · have HR := Lib.hid (HG.out hd0)
          have hg1 := hgp hd0
          clear HB HG hgp
          have hdz : (D == 0) = false := by simp; exact hd0
          have hgz : (G == 0) = false := by simp; omega
          have hq1 := IntWalk.i64_quo' U G (by omega)
          have hq2 := IntWalk.i64_quo' D G (by omega)
          have wn : IntKind.i64.wrap (-U) = -U := IntWalk.i64_in _ (by omega)
          by_cases hneg : -U > U
          · have hc := fun W => gcdN_any' (-U) D W (by omega) (by omega) (by omega) (by omega)
            rw [Int.neg_gcd, ← hgu] at hc
            go_wp2_with (first | (go_at_call 48; refine (hc _).mono ?_; rintro e w1 ⟨rfl, d, rfl⟩))
            go_quiet (fail)
            go_wp2
            go_ret2
            exact ⟨ret_ii (by rw [HR.out.1, hgu] <;> first | rfl | exact (Int.tdiv_eq_ediv_of_nonneg (by omega)).symm) (by rw [HR.out.2, hgu] <;> first | rfl | exact (Int.tdiv_eq_ediv_of_nonneg (by omega)).symm), up_of_below (by repeat (first | with_reducible exact Below.refl _ _ | with_reducible apply below_alloc | with_reducible apply below_drw | with_reducible apply below_drew | with_reducible apply below_drewN | with_reducible apply below_plus | with_reducible apply below_set | (simp; done)))⟩
          · have hc := fun W => gcdN_any' U D W (by omega) (by omega) (by omega) (by omega)
            rw [← hgu] at hc
            go_wp2_with (first | (go_at_call 48; refine (hc _).mono ?_; rintro e w1 ⟨rfl, d, rfl⟩))
            go_quiet (fail)
            go_wp2
            go_ret2
            exact ⟨ret_ii (by rw [HR.out.1, hgu] <;> first | rfl | exact (Int.tdiv_eq_ediv_of_nonneg (by omega)).symm) (by rw [HR.out.2, hgu] <;> first | rfl | exact (Int.tdiv_eq_ediv_of_nonneg (by omega)).symm), up_of_below (by repeat (first | with_reducible exact Below.refl _ _ | with_reducible apply below_alloc | with_reducible apply below_drw | with_reducible apply below_drew | with_reducible apply below_drewN | with_reducible apply below_plus | with_reducible apply below_set | (simp; done)))⟩

set_option maxHeartbeats 4000000 in
theorem sSlope_any (a : Option Addr) (n c : Nat) (zs : List Int) (w : World) (hz : zs.length = n * 2) (hi : Ints w a zs) (hn : n ≤ 1000000000) :
    Calls Try.prog 25 #[.slice a n c] w fun e w' => e = .returned (.tuple #[.int .i64 (slU zs n), .int .i64 (slD zs n)]) ∧ Up w w' := by
  have hv := fun W h => sValid_any a n c zs W hz h hn
  cases hp : pairsB n zs <;> rw [hp] at hv
  · have HF := Lib.hid (slope_bad hp)
    go_enter Try.func25, Try.ntmps25
    go_wp2_with (first | (go_at_call 14; refine (hv _ hi).mono ?_; rintro e w1 ⟨rfl, os, d, rfl⟩) | (go_at_call 14; refine (hv _ hi).mono ?_; rintro e w1 ⟨rfl, rfl⟩))
    go_ret2
    exact ⟨ret_ii HF.out.1.symm HF.out.2.symm, up_of_below (by repeat (first | with_reducible exact Below.refl _ _ | with_reducible apply below_alloc | with_reducible apply below_drw | with_reducible apply below_drew | with_reducible apply below_drewN | with_reducible apply below_plus | with_reducible apply below_set | (simp; done)))⟩
  · have HV := Lib.hid hp
    have HP := Lib.hid (pairsB_t.1 hp)
    have HI := Lib.hid hi
    have HZ := Lib.hid hz
    have hn20 := HP.out.1.2
    have hn1 := HP.out.1.1
    go_enter Try.func25, Try.ntmps25
    go_wp2_with (first | (go_at_call 14; refine (hv _ hi).mono ?_; rintro e w1 ⟨rfl, os, d, rfl⟩) | (go_at_call 14; refine (hv _ hi).mono ?_; rintro e w1 ⟨rfl, rfl⟩))
    clear hp hi hz hv
    go_loopw [5, 6, 8, 7, 9] (fun s t q r iv wr => ∃ j : Nat, j ≤ n ∧ iv = .int .i64 j ∧ s = .int .i64 (sX zs j) ∧ t = .int .i64 (sY zs j) ∧ q = .int .i64 (sXX zs j) ∧ r = .int .i64 (sXY zs j) ∧ ∃ os d, wr = plus w os d) (fun _ _ _ _ iv _ => n - (intOf iv).toNat)
    case atStart => exact ⟨0, Nat.zero_le _, rfl, rfl, rfl, rfl, rfl, by first | exact ⟨_, _, rfl⟩ | exact ⟨#[], _, plus_id.symm⟩⟩
    case round =>
      obtain ⟨j, hj, rfl, rfl, rfl, rfl, rfl, os, d, rfl⟩ := hrel
      by_cases hlt : j < n
      · have hlt' : (j : Int) < (n : Int) := by omega
        obtain ⟨blk, off, rfl, hb, c0, c1⟩ := HI.out.pair HZ.out hlt
        have hD := HP.out.2 j hlt
        have hx := (okP_t.1 hD).1
        have hy := (okP_t.1 hD).2
        have hs := sums_bd (zs := zs) (n := j) (by omega) (fun i hi => HP.out.2 i (by omega))
        have H1 : Hid (sX zs (j + 1) = sX zs j + pX zs j) := rfl
        have H2 : Hid (sY zs (j + 1) = sY zs j + pY zs j) := rfl
        have H3 : Hid (sXX zs (j + 1) = sXX zs j + pX zs j * pX zs j) := rfl
        have H4 : Hid (sXY zs (j + 1) = sXY zs j + pX zs j * pY zs j) := rfl
        generalize pX zs j = x at c0 hx H1 H3 H4
        generalize pY zs j = y at c1 hy H2 H4
        generalize sX zs j = u1 at H1 hs ⊢
        generalize sY zs j = u2 at H2 hs ⊢
        generalize sXX zs j = u3 at H3 hs ⊢
        generalize sXY zs j = u4 at H4 hs ⊢
        have q1 := sq_bd (x := x) (A := 1000) hx.1 hx.2
        have q2 := prod_bd (x := x) (y := y) (A := 1000) hx.1 hx.2 hy.1 hy.2
        have w1 : IntKind.i64.wrap (u1 + x) = u1 + x := IntWalk.i64_in _ (by omega)
        have w2 : IntKind.i64.wrap (u2 + y) = u2 + y := IntWalk.i64_in _ (by omega)
        have w3 : IntKind.i64.wrap (x * x) = x * x := IntWalk.i64_in _ (by omega)
        have w4 : IntKind.i64.wrap (x * y) = x * y := IntWalk.i64_in _ (by omega)
        have w5 : IntKind.i64.wrap (u3 + x * x) = u3 + x * x := IntWalk.i64_in _ (by omega)
        have w6 : IntKind.i64.wrap (u4 + x * y) = u4 + x * y := IntWalk.i64_in _ (by omega)
        clear hD hs q1 q2
        go_wp2
        go_roundw
        case rel => exact ⟨j + 1, by omega, by go_num, by rw [H1.out], by rw [H2.out], by rw [H3.out], by rw [H4.out], up_of_below (by repeat (first | with_reducible exact Below.refl _ _ | with_reducible apply below_alloc | with_reducible apply below_drw | with_reducible apply below_drew | with_reducible apply below_drewN | with_reducible apply below_plus | with_reducible apply below_set | (simp; done)))⟩
        case measure => simp [intOf]; omega
      · have hlt' : ¬ (j : Int) < (n : Int) := by omega
        obtain rfl : j = n := by omega
        have hs := sums_bd (zs := zs) (n := j) (by omega) HP.out.2
        have HU : Hid (upF zs j = j * sXY zs j - sX zs j * sY zs j) := rfl
        have HD : Hid (downF zs j = j * sXX zs j - sX zs j * sX zs j) := rfl
        have hdn := downF_nonneg zs j
        have HG := Lib.hid (slope_good (zs := zs) (n := j) HV.out)
        have HB := Lib.hid (slope_flat (zs := zs) (n := j))
        have hgp := gcdP_pos (zs := zs) (n := j)
        have hgu : gcdP zs j = (Int.gcd (upF zs j) (downF zs j) : Nat) := rfl
        generalize sX zs j = u1 at HU HD hs ⊢
        generalize sY zs j = u2 at HU hs ⊢
        generalize sXX zs j = u3 at HD hs ⊢
        generalize sXY zs j = u4 at HU hs ⊢
        have q1 := prod_bd (x := u1) (y := u2) (A := 20000) (by omega) (by omega) (by omega) (by omega)
        have q2 := sq_bd (x := u1) (A := 20000) (by omega) (by omega)
        have q3 := scal_bd (n := j) (s := u4) (B := 20000000) hn20 (by omega) (by omega)
        have q4 := scal_bd (n := j) (s := u3) (B := 20000000) hn20 (by omega) (by omega)
        have w1 : IntKind.i64.wrap ((j : Int) * u4) = j * u4 := IntWalk.i64_in _ (by omega)
        have w2 : IntKind.i64.wrap (u1 * u2) = u1 * u2 := IntWalk.i64_in _ (by omega)
        have w3 : IntKind.i64.wrap ((j : Int) * u3) = j * u3 := IntWalk.i64_in _ (by omega)
        have w4 : IntKind.i64.wrap (u1 * u1) = u1 * u1 := IntWalk.i64_in _ (by omega)
        have hU := HU.out
        have hD := HD.out
        generalize upF zs j = U at hU hgu HG HU
        generalize downF zs j = D at hD hgu HG HB HD hgp hdn
        generalize gcdP zs j = G at hgu HG hgp
        have w5 : IntKind.i64.wrap ((j : Int) * u4 - u1 * u2) = U := (IntWalk.i64_in _ (by omega)).trans hU.symm
        have w6 : IntKind.i64.wrap ((j : Int) * u3 - u1 * u1) = D := (IntWalk.i64_in _ (by omega)).trans hD.symm
        have bU : -800000000 ≤ U ∧ U ≤ 800000000 := by omega
        have bD : D ≤ 800000000 := by omega
        clear hU hD q1 q2 q3 q4 hs HU HD
        by_cases hd0 : D = 0
        · subst hd0
          have HR := Lib.hid (HB.out rfl)
          clear HB HG hgp hdn
          go_wp2
          go_ret2
          exact ⟨ret_ii HR.out.1.symm HR.out.2.symm, up_of_below (by repeat (first | with_reducible exact Below.refl _ _ | with_reducible apply below_alloc | with_reducible apply below_drw | with_reducible apply below_drew | with_reducible apply below_drewN | with_reducible apply below_plus | with_reducible apply below_set | (simp; done)))⟩
        · have HR := Lib.hid (HG.out hd0)
          have hg1 := hgp hd0
          clear HB HG hgp
          have hdz : (D == 0) = false := by simp; exact hd0
          have hgz : (G == 0) = false := by simp; omega
          have hq1 := IntWalk.i64_quo' U G (by omega)
          have hq2 := IntWalk.i64_quo' D G (by omega)
          have wn : IntKind.i64.wrap (-U) = -U := IntWalk.i64_in _ (by omega)
          by_cases hneg : -U > U
          · have hc := fun W => sGcdN_any' (-U) D W (by omega) (by omega) (by omega) (by omega)
            rw [Int.neg_gcd, ← hgu] at hc
            go_wp2_with (first | (go_at_call 47; refine (hc _).mono ?_; rintro e w1 ⟨rfl, d, rfl⟩))
            go_quiet (fail)
            go_wp2
            go_ret2
            exact ⟨ret_ii (by rw [HR.out.1, hgu] <;> first | rfl | exact (Int.tdiv_eq_ediv_of_nonneg (by omega)).symm) (by rw [HR.out.2, hgu] <;> first | rfl | exact (Int.tdiv_eq_ediv_of_nonneg (by omega)).symm), up_of_below (by repeat (first | with_reducible exact Below.refl _ _ | with_reducible apply below_alloc | with_reducible apply below_drw | with_reducible apply below_drew | with_reducible apply below_drewN | with_reducible apply below_plus | with_reducible apply below_set | (simp; done)))⟩
          · have hc := fun W => sGcdN_any' U D W (by omega) (by omega) (by omega) (by omega)
            rw [← hgu] at hc
            go_wp2_with (first | (go_at_call 47; refine (hc _).mono ?_; rintro e w1 ⟨rfl, d, rfl⟩))
            go_quiet (fail)
            go_wp2
            go_ret2
            exact ⟨ret_ii (by rw [HR.out.1, hgu] <;> first | rfl | exact (Int.tdiv_eq_ediv_of_nonneg (by omega)).symm) (by rw [HR.out.2, hgu] <;> first | rfl | exact (Int.tdiv_eq_ediv_of_nonneg (by omega)).symm), up_of_below (by repeat (first | with_reducible exact Below.refl _ _ | with_reducible apply below_alloc | with_reducible apply below_drw | with_reducible apply below_drew | with_reducible apply below_drewN | with_reducible apply below_plus | with_reducible apply below_set | (simp; done)))⟩

end Go.Proofs.Ytfonccnpgedgfaa
