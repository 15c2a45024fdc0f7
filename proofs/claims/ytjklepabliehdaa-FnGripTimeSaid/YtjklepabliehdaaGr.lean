/-
  Contracts of the functions on the gripper (program and reference): what each returns, in plain numbers. No condition.
-/
import Derived.Test.YtjklepabliehdaaNum
import Derived.LoopTactic
import Derived.Lib.Hide
namespace Go.Proofs.Ytjklepabliehdaa
open Go.RowKit

/-! ### plain -/
def gripB (w t s o : Int) : Bool := inB w 0 200 && (inB t 0 200 && (inB o 0 200 && inB s 1 200))
theorem gripB_t {w t s o : Int} : gripB w t s o = true ↔ (0 ≤ w ∧ w ≤ 200) ∧ (0 ≤ t ∧ t ≤ 200) ∧ (0 ≤ o ∧ o ≤ 200) ∧ 1 ≤ s ∧ s ≤ 200 := by simp [gripB, inB_t]
/-- The next width without an object. -/
def gripN (w t s : Int) : Int := clampF t (w - s) (w + s)
/-- The next width, for valid arguments. -/
def gripG (w t s o : Int) : Int := if o ≤ w then max (gripN w t s) o else gripN w t s
def gripH (w t s o : Int) : Bool := decide (1 ≤ o) && (decide (gripG w t s o = o) && decide (t < o))
def gripF (w t s o : Int) : Int := if gripB w t s o = true then gripG w t s o else -1
def gripK (w t s o : Int) : Bool := gripB w t s o && gripH w t s o
theorem gripN_eq (w t s : Int) : w + clampF (t - w) (-s) s = gripN w t s := by unfold gripN clampF; omega
/-- Where the fingers come to rest. -/
def gripE (w t o : Int) : Int := if w ≤ t then t else if o ≤ w then max t o else t
theorem gripG_eq {w t s o : Int} (hs : 1 ≤ s) : gripG w t s o = max (w - s) (min (w + s) (gripE w t o)) := by
  unfold gripG gripN gripE clampF; split <;> split <;> (try split) <;> omega
theorem gripE_bd {w t s o : Int} (h : gripB w t s o = true) : 0 ≤ gripE w t o ∧ gripE w t o ≤ 200 := by
  have := gripB_t.1 h
  unfold gripE; split <;> (try split) <;> omega
theorem gripE_near {w t o : Int} : (t ≤ gripE w t o ∧ gripE w t o ≤ w) ∨ (w ≤ gripE w t o ∧ gripE w t o = t) ∨ gripE w t o = t := by
  unfold gripE; split <;> (try split) <;> omega
theorem gripE_next {w t s o : Int} (hs : 1 ≤ s) : gripE (gripG w t s o) t o = gripE w t o := by
  rw [gripG_eq hs]
  unfold gripE
  split <;> split <;> (try split) <;> (try split) <;> omega
theorem gripB_next {w t s o : Int} (h : gripB w t s o = true) : gripB (gripG w t s o) t s o = true := by
  have hb := gripE_bd h
  have hv := gripB_t.1 h
  refine gripB_t.2 ⟨?_, hv.2⟩
  rw [gripG_eq (by omega)]; omega
/-- How many steps it takes. -/
def gripT (w t s o : Int) : Int := ((gripE w t o - w).natAbs + s - 1) / s
theorem gripT_rest {w t s o : Int} (hs : 1 ≤ s) (h : gripG w t s o = w) : gripT w t s o = 0 := by
  rw [gripG_eq hs] at h
  have e : gripE w t o = w := by omega
  unfold gripT
  rw [e, show ((w - w).natAbs : Int) + s - 1 = s - 1 by omega]
  exact Int.ediv_eq_zero_of_lt (by omega) (by omega)
theorem gripT_step {w t s o : Int} (hs : 1 ≤ s) (h : gripG w t s o ≠ w) : gripT w t s o = gripT (gripG w t s o) t s o + 1 := by
  have hn := gripE_next (w := w) (t := t) (o := o) hs
  unfold gripT
  rw [hn]
  rw [gripG_eq hs] at h ⊢
  generalize gripE w t o = e at h ⊢
  by_cases hc : ((e - w).natAbs : Int) ≤ s
  · have e1 : e - max (w - s) (min (w + s) e) = 0 := by omega
    have z : (s - 1) / s = 0 := Int.ediv_eq_zero_of_lt (by omega) (by omega)
    rw [e1, show ((0 : Int).natAbs : Int) + s - 1 = s - 1 by simp, z]
    rw [show ((e - w).natAbs : Int) + s - 1 = (((e - w).natAbs : Int) - 1) + 1 * s by omega, Int.add_mul_ediv_right _ _ (by omega), Int.ediv_eq_zero_of_lt (by omega) (by omega)]
  · have e1 : ((e - max (w - s) (min (w + s) e)).natAbs : Int) = (e - w).natAbs - s := by omega
    rw [e1, show ((e - w).natAbs : Int) + s - 1 = (((e - w).natAbs : Int) - s + s - 1) + 1 * s by omega, Int.add_mul_ediv_right _ _ (by omega)]
theorem gripT_nn {w t s o : Int} (hs : 1 ≤ s) : 0 ≤ gripT w t s o := Int.ediv_nonneg (by omega) (by omega)
theorem gripT_le {w t s o : Int} (hs : 1 ≤ s) : gripT w t s o ≤ (gripE w t o - w).natAbs := by
  unfold gripT
  generalize (gripE w t o - w).natAbs = d
  have : ((d : Int) + s - 1) / s < d + 1 := by
    refine Int.ediv_lt_of_lt_mul (by omega) ?_
    have := Int.mul_le_mul_of_nonneg_left hs (show (0 : Int) ≤ d by omega)
    rw [Int.add_mul]; omega
  omega
theorem gripT_faster {w t s o : Int} (hs : 1 ≤ s) : gripT w t (s + 1) o ≤ gripT w t s o := by
  unfold gripT
  generalize (gripE w t o - w).natAbs = d
  obtain ⟨q, hq⟩ : ∃ q, q = ((d : Int) + s - 1) / s := ⟨_, rfl⟩
  rw [← hq]
  have hq0 : 0 ≤ q := by rw [hq]; exact Int.ediv_nonneg (by omega) (by omega)
  have h1 : (d : Int) + s - 1 < (q + 1) * s := by rw [hq]; exact Int.lt_ediv_add_one_mul_self _ (by omega)
  have : ((d : Int) + (s + 1) - 1) / (s + 1) < q + 1 := by
    refine Int.ediv_lt_of_lt_mul (by omega) ?_
    rw [Int.add_mul] at h1
    rw [Int.add_mul, Int.mul_add]; omega
  omega
def gripM (w t s o : Int) : Int := if gripB w t s o = true then gripT w t s o else -1
theorem ret_gt {a b : Int} {c d : Bool} (h : a = b) (h' : c = d) : Ending.returned (.tuple #[.int .i64 a, .bool c]) = .returned (.tuple #[.int .i64 b, .bool d]) := by rw [h, h']

/-! ### the walks -/
set_option maxHeartbeats 400000 in
theorem gripFits_any (x t s o : Int) (w : World) :
    Calls Try.prog 42 #[.int .i64 x, .int .i64 t, .int .i64 s, .int .i64 o] w fun e w' => e = .returned (.bool (gripB x t s o)) ∧ w = w' := by
  cases h1 : inB x 0 200 <;> cases h2 : inB t 0 200 <;> cases h3 : inB o 0 200 <;> cases h4 : inB s 1 200 <;>
  · obtain ⟨b, KB⟩ : ∃ b, b = gripB x t s o := ⟨_, rfl⟩
    have KV := KB
    rw [gripB, h1, h2, h3, h4] at KV
    subst KV
    have KK := Lib.hid KB
    clear KB
    go_enter Try.func42, Try.ntmps42
    go_wp2_with (go_at_call 37; refine (within_any _ _ _ _).mono ?_; rintro e w' ⟨rfl, rfl⟩)
    go_ret
    exact ⟨ret_bool KK.out, rfl⟩

/-- The answer, in cases. -/
theorem grip_cases {x t s o : Int} (hB : gripB x t s o = true) (N : Int) (hN : gripN x t s = N) :
    (o ≤ x ∧ N ≤ o ∧ N ≠ o ∧ o < 1 ∧ gripF x t s o = o ∧ gripK x t s o = false) ∨ (o ≤ x ∧ N < o ∧ 1 ≤ o ∧ gripF x t s o = o ∧ gripK x t s o = decide (t < o)) ∨
    (o ≤ x ∧ N = o ∧ gripF x t s o = o ∧ gripK x t s o = (decide (1 ≤ o) && decide (t < o))) ∨ (o ≤ x ∧ o < N ∧ gripF x t s o = N ∧ gripK x t s o = false) ∨
    (x < o ∧ N ≠ o ∧ gripF x t s o = N ∧ gripK x t s o = false) ∨ (x < o ∧ N = o ∧ o ≤ t ∧ gripF x t s o = N ∧ gripK x t s o = false) := by
  have hv := gripB_t.1 hB
  have hN' := hN
  unfold gripN clampF at hN'
  have hF : gripF x t s o = gripG x t s o := by rw [gripF, if_pos hB]
  have hK : gripK x t s o = gripH x t s o := by rw [gripK, hB]; rfl
  rw [hF, hK]
  unfold gripH gripG
  rw [hN]
  by_cases c1 : o ≤ x
  · rw [if_pos c1]
    rcases Int.lt_trichotomy N o with c2 | c2 | c2
    · have e : max N o = o := by omega
      rw [e]
      have c3 : 1 ≤ o := by omega
      exact .inr (.inl ⟨c1, c2, c3, rfl, by simp [c3]⟩)
    · have e : max N o = o := by omega
      rw [e]
      exact .inr (.inr (.inl ⟨c1, c2, rfl, by simp⟩))
    · have e : max N o = N := by omega
      rw [e]
      exact .inr (.inr (.inr (.inl ⟨c1, c2, rfl, by simp; omega⟩)))
  · rw [if_neg c1]
    by_cases c2 : N = o
    · exact .inr (.inr (.inr (.inr (.inr ⟨by omega, c2, by omega, rfl, by simp [c2]; omega⟩))))
    · exact .inr (.inr (.inr (.inr (.inl ⟨by omega, c2, rfl, by simp [c2]⟩))))

set_option maxHeartbeats 2000000 in
theorem grip_any (x t s o : Int) (w : World) :
    Calls Try.prog 18 #[.int .i64 x, .int .i64 t, .int .i64 s, .int .i64 o] w fun e w' => e = .returned (.tuple #[.int .i64 (gripF x t s o), .bool (gripK x t s o)]) ∧ w = w' := by
  cases hB : gripB x t s o
  · have HF : Hid (gripF x t s o = -1) := by show gripF x t s o = _; rw [gripF, hB]; rfl
    have HK : Hid (gripK x t s o = false) := by show gripK x t s o = _; rw [gripK, hB]; rfl
    cases h1 : inB x 0 200 <;> cases h2 : inB t 0 200 <;> cases h3 : inB o 0 200 <;> cases h4 : inB s 1 200
    case true.true.true.true => rw [gripB, h1, h2, h3, h4] at hB; exact absurd hB (by decide)
    all_goals
      go_enter Try.func18, Try.ntmps18
      go_wp2_with (first | (go_at_call 42; refine (gripFits_any _ _ _ _).mono ?_; rintro e w' ⟨rfl, rfl⟩) | (go_at_call 42; refine (gripFits_any _ _ _ _ _).mono ?_; rintro e w' ⟨rfl, rfl⟩))
      go_ret2
      exact ⟨ret_gt HF.out.symm HK.out.symm, rfl⟩
  · obtain ⟨N, hN⟩ : ∃ N, gripN x t s = N := ⟨_, rfl⟩
    have hcs := grip_cases hB N hN
    obtain ⟨⟨x1, x2⟩, ⟨t1, t2⟩, ⟨o1, o2⟩, s1, s2⟩ := gripB_t.1 hB
    have i1 : inB x 0 200 = true := inB_t.2 ⟨x1, x2⟩
    have i2 : inB t 0 200 = true := inB_t.2 ⟨t1, t2⟩
    have i3 : inB o 0 200 = true := inB_t.2 ⟨o1, o2⟩
    have i4 : inB s 1 200 = true := inB_t.2 ⟨s1, s2⟩
    have E1 := gripN_eq x t s
    rw [hN] at E1
    have E2 : clampF t (x - s) (x + s) = N := hN
    have cb : -s ≤ clampF (t - x) (-s) s ∧ clampF (t - x) (-s) s ≤ s := clampF_bd (by omega)
    obtain ⟨cb1, cb2⟩ := cb
    have hNb : -200 ≤ N ∧ N ≤ 400 := by omega
    obtain ⟨nb1, nb2⟩ := hNb
    clear hN
    have n1 : IntKind.i64.wrap (-s) = -s := IntWalk.i64_in _ (by omega)
    have key : ∀ (F : Int) (K : Bool), gripF x t s o = F → gripK x t s o = K → Hid (gripF x t s o = F ∧ gripK x t s o = K) := fun F K h1 h2 => ⟨h1, h2⟩
    clear cb1 cb2
    by_cases ht : t < o <;> by_cases ho : 1 ≤ o
    all_goals
      rcases hcs with ⟨c1, c2, c3, c4, HF, HK⟩ | ⟨c1, c2, c3, HF, HK⟩ | ⟨c1, c2, HF, HK⟩ | ⟨c1, c2, HF, HK⟩ | ⟨c1, c2, HF, HK⟩ | ⟨c1, c2, c3, HF, HK⟩
      all_goals (try omega)
      all_goals
        have HH := key _ _ HF HK
        clear HF HK key
        first
          | (have b : (N == o) = false := by simp; omega)
          | (obtain rfl : N = o := by omega)
        go_enter Try.func18, Try.ntmps18
        go_wp2_with (first | (go_at_call 38; refine (clamp_any _ _ _ _).mono ?_; rintro e w' ⟨rfl, rfl⟩) | (go_at_call 42; refine (gripFits_any _ _ _ _).mono ?_; rintro e w' ⟨rfl, rfl⟩) | (go_at_call 42; refine (gripFits_any _ _ _ _ _).mono ?_; rintro e w' ⟨rfl, rfl⟩))
        go_ret2
        exact ⟨ret_gt HH.out.1.symm (HH.out.2.trans (by first | rfl | (simp; omega) | (simp; intros; omega))).symm, rfl⟩

set_option maxHeartbeats 2000000 in
theorem sGrip_any (x t s o : Int) (w : World) :
    Calls Try.prog 19 #[.int .i64 x, .int .i64 t, .int .i64 s, .int .i64 o] w fun e w' => e = .returned (.tuple #[.int .i64 (gripF x t s o), .bool (gripK x t s o)]) ∧ w = w' := by
  cases hB : gripB x t s o
  · have HF : Hid (gripF x t s o = -1) := by show gripF x t s o = _; rw [gripF, hB]; rfl
    have HK : Hid (gripK x t s o = false) := by show gripK x t s o = _; rw [gripK, hB]; rfl
    cases h1 : inB x 0 200 <;> cases h2 : inB t 0 200 <;> cases h3 : inB o 0 200 <;> cases h4 : inB s 1 200
    case true.true.true.true => rw [gripB, h1, h2, h3, h4] at hB; exact absurd hB (by decide)
    all_goals
      go_enter Try.func19, Try.ntmps19
      go_wp2_with (first | (go_at_call 35; refine (l1In_any _ _ _ _).mono ?_; rintro e w' ⟨rfl, rfl⟩) | (go_at_call 35; refine (l1In_any _ _ _ _ _).mono ?_; rintro e w' ⟨rfl, rfl⟩))
      go_ret2
      exact ⟨ret_gt HF.out.symm HK.out.symm, rfl⟩
  · obtain ⟨N, hN⟩ : ∃ N, gripN x t s = N := ⟨_, rfl⟩
    have hcs := grip_cases hB N hN
    obtain ⟨⟨x1, x2⟩, ⟨t1, t2⟩, ⟨o1, o2⟩, s1, s2⟩ := gripB_t.1 hB
    have i1 : inB x 0 200 = true := inB_t.2 ⟨x1, x2⟩
    have i2 : inB t 0 200 = true := inB_t.2 ⟨t1, t2⟩
    have i3 : inB o 0 200 = true := inB_t.2 ⟨o1, o2⟩
    have i4 : inB s 1 200 = true := inB_t.2 ⟨s1, s2⟩
    have E1 := gripN_eq x t s
    rw [hN] at E1
    have E2 : clampF t (x - s) (x + s) = N := hN
    have cb : -s ≤ clampF (t - x) (-s) s ∧ clampF (t - x) (-s) s ≤ s := clampF_bd (by omega)
    obtain ⟨cb1, cb2⟩ := cb
    have hNb : -200 ≤ N ∧ N ≤ 400 := by omega
    obtain ⟨nb1, nb2⟩ := hNb
    clear hN
    have n1 : IntKind.i64.wrap (-s) = -s := IntWalk.i64_in _ (by omega)
    have key : ∀ (F : Int) (K : Bool), gripF x t s o = F → gripK x t s o = K → Hid (gripF x t s o = F ∧ gripK x t s o = K) := fun F K h1 h2 => ⟨h1, h2⟩
    clear cb1 cb2
    by_cases ht : t < o <;> by_cases ho : 1 ≤ o
    all_goals
      rcases hcs with ⟨c1, c2, c3, c4, HF, HK⟩ | ⟨c1, c2, c3, HF, HK⟩ | ⟨c1, c2, HF, HK⟩ | ⟨c1, c2, HF, HK⟩ | ⟨c1, c2, HF, HK⟩ | ⟨c1, c2, c3, HF, HK⟩
      all_goals (try omega)
      all_goals
        have HH := key _ _ HF HK
        clear HF HK key
        first
          | (have b : (N == o) = false := by simp; omega)
          | (obtain rfl : N = o := by omega)
        go_enter Try.func19, Try.ntmps19
        go_wp2_with (first | (go_at_call 36; refine (l1Clip_any _ _ _ _).mono ?_; rintro e w' ⟨rfl, rfl⟩) | (go_at_call 35; refine (l1In_any _ _ _ _).mono ?_; rintro e w' ⟨rfl, rfl⟩) | (go_at_call 35; refine (l1In_any _ _ _ _ _).mono ?_; rintro e w' ⟨rfl, rfl⟩))
        go_ret2
        exact ⟨ret_gt HH.out.1.symm (HH.out.2.trans (by first | rfl | (simp; omega) | (simp; intros; omega))).symm, rfl⟩

set_option maxHeartbeats 1000000 in
theorem gripTime_any (x t s o : Int) (w : World) :
    Calls Try.prog 23 #[.int .i64 x, .int .i64 t, .int .i64 s, .int .i64 o] w fun e w' => e = .returned (.int .i64 (gripM x t s o)) ∧ w = w' := by
  cases hB : gripB x t s o
  · have HF : Hid (gripF x t s o = -1) := by show gripF x t s o = _; rw [gripF, hB]; rfl
    have e0 : gripF x t s o = -1 := HF.out
    have HM : Hid (gripM x t s o = -1) := by show gripM x t s o = _; rw [gripM, hB]; rfl
    go_enter Try.func23, Try.ntmps23
    go_wp2_with (first | (go_at_call 18; refine (grip_any _ _ _ _ _).mono ?_; rintro e w' ⟨rfl, rfl⟩) | (go_at_call 42; refine (gripFits_any _ _ _ _ _).mono ?_; rintro e w' ⟨rfl, rfl⟩))
    first
      | (go_ret
         exact ⟨ret_i64 HM.out.symm, rfl⟩)
      | (go_loop [0, 9] (fun xv nv => xv = .int .i64 x ∧ nv = .int .i64 0) (fun _ _ => 0)
         case atStart => exact ⟨rfl, rfl⟩
         case round =>
           obtain ⟨rfl, rfl⟩ := hrel
           go_wp2_with (go_at_call 18; refine (grip_any _ _ _ _ _).mono ?_; rintro e w' ⟨rfl, rfl⟩)
           go_ret
           exact ⟨ret_i64 HM.out.symm, rfl⟩)
  · have HM : Hid (gripM x t s o = gripT x t s o) := by show gripM x t s o = _; rw [gripM, hB]; rfl
    have hs : 1 ≤ s := (gripB_t.1 hB).2.2.2.1
    have hT0 := gripT_le (w := x) (t := t) (s := s) (o := o) hs
    have hb := gripE_bd hB
    have hv := (gripB_t.1 hB).1
    have hT1 : gripT x t s o ≤ 200 := by omega
    have HT1 := Lib.hid hT1
    clear hT0 hb hv hT1
    have HB := Lib.hid hB
    go_enter Try.func23, Try.ntmps23
    go_wp2_with (go_at_call 42; refine (gripFits_any _ _ _ _ _).mono ?_; rintro e w' ⟨rfl, rfl⟩)
    clear hB
    go_loop [0, 9] (fun xv nv => ∃ (y : Int) (k : Nat), xv = .int .i64 y ∧ nv = .int .i64 k ∧ Hid (gripB y t s o = true) ∧ Hid (gripT y t s o + k = gripT x t s o)) (fun xv _ => (gripT (intOf xv) t s o).toNat)
    case atStart => exact ⟨x, 0, rfl, rfl, HB, by show gripT x t s o + ((0 : Nat) : Int) = _; omega⟩
    case round =>
      obtain ⟨y, k, rfl, rfl, HY, HK⟩ := hrel
      have e0 : gripF y t s o = gripG y t s o := by rw [gripF, if_pos HY.out]
      have hy := (gripB_t.1 HY.out).1
      have hg := (gripB_t.1 (gripB_next HY.out)).1
      obtain ⟨hg0, hg1⟩ := hg
      have hk : (k : Int) ≤ 200 := by
        have h1 := gripT_nn (w := y) (t := t) (o := o) hs
        have h2 := HK.out
        have h3 := HT1.out
        omega
      by_cases hc : gripG y t s o = y
      · have hz := gripT_rest hs hc
        have hk0 : Hid (gripM x t s o = k) := by
          show gripM x t s o = k
          rw [HM.out]
          have := HK.out
          omega
        clear hz
        have e1 : gripF y t s o = y := e0.trans hc
        clear e0 hc
        go_wp2_with (go_at_call 18; refine (grip_any _ _ _ _ _).mono ?_; rintro e w' ⟨rfl, rfl⟩)
        go_ret
        exact ⟨ret_i64 hk0.out.symm, rfl⟩
      · have hst := gripT_step hs hc
        have hnn := gripT_nn (w := gripG y t s o) (t := t) (o := o) hs
        have HS := Lib.hid hst
        have HN := Lib.hid hnn
        have b : (gripG y t s o == y) = false := by simp; exact hc
        have HBn := Lib.hid (gripB_next HY.out)
        clear hst hnn hc
        go_wp2_with (go_at_call 18; refine (grip_any _ _ _ _ _).mono ?_; rintro e w' ⟨rfl, rfl⟩)
        go_round
        case rel => exact ⟨gripG y t s o, k + 1, rfl, by go_num, HBn, by have h1 := HS.out; have h2 := HK.out; show _ + ((k + 1 : Nat) : Int) = _; omega⟩
        case measure => have h1 := HS.out; have h2 := HN.out; simp [intOf]; omega

set_option maxHeartbeats 1000000 in
theorem sGripTime_any (x t s o : Int) (w : World) :
    Calls Try.prog 24 #[.int .i64 x, .int .i64 t, .int .i64 s, .int .i64 o] w fun e w' => e = .returned (.int .i64 (gripM x t s o)) ∧ w = w' := by
  cases hB : gripB x t s o
  · have HF : Hid (gripF x t s o = -1) := by show gripF x t s o = _; rw [gripF, hB]; rfl
    have e0 : gripF x t s o = -1 := HF.out
    have HM : Hid (gripM x t s o = -1) := by show gripM x t s o = _; rw [gripM, hB]; rfl
    go_enter Try.func24, Try.ntmps24
    go_wp2_with (first | (go_at_call 19; refine (sGrip_any _ _ _ _ _).mono ?_; rintro e w' ⟨rfl, rfl⟩) | (go_at_call 42; refine (gripFits_any _ _ _ _ _).mono ?_; rintro e w' ⟨rfl, rfl⟩))
    first
      | (go_ret
         exact ⟨ret_i64 HM.out.symm, rfl⟩)
      | (go_loop [0, 9] (fun xv nv => xv = .int .i64 x ∧ nv = .int .i64 0) (fun _ _ => 0)
         case atStart => exact ⟨rfl, rfl⟩
         case round =>
           obtain ⟨rfl, rfl⟩ := hrel
           go_wp2_with (go_at_call 19; refine (sGrip_any _ _ _ _ _).mono ?_; rintro e w' ⟨rfl, rfl⟩)
           go_ret
           exact ⟨ret_i64 HM.out.symm, rfl⟩)
  · have HM : Hid (gripM x t s o = gripT x t s o) := by show gripM x t s o = _; rw [gripM, hB]; rfl
    have hs : 1 ≤ s := (gripB_t.1 hB).2.2.2.1
    have hT0 := gripT_le (w := x) (t := t) (s := s) (o := o) hs
    have hb := gripE_bd hB
    have hv := (gripB_t.1 hB).1
    have hT1 : gripT x t s o ≤ 200 := by omega
    have HT1 := Lib.hid hT1
    clear hT0 hb hv hT1
    have HB := Lib.hid hB
    go_enter Try.func24, Try.ntmps24
    go_wp2_with (go_at_call 42; refine (gripFits_any _ _ _ _ _).mono ?_; rintro e w' ⟨rfl, rfl⟩)
    clear hB
    go_loop [0, 9] (fun xv nv => ∃ (y : Int) (k : Nat), xv = .int .i64 y ∧ nv = .int .i64 k ∧ Hid (gripB y t s o = true) ∧ Hid (gripT y t s o + k = gripT x t s o)) (fun xv _ => (gripT (intOf xv) t s o).toNat)
    case atStart => exact ⟨x, 0, rfl, rfl, HB, by show gripT x t s o + ((0 : Nat) : Int) = _; omega⟩
    case round =>
      obtain ⟨y, k, rfl, rfl, HY, HK⟩ := hrel
      have e0 : gripF y t s o = gripG y t s o := by rw [gripF, if_pos HY.out]
      have hy := (gripB_t.1 HY.out).1
      have hg := (gripB_t.1 (gripB_next HY.out)).1
      obtain ⟨hg0, hg1⟩ := hg
      have hk : (k : Int) ≤ 200 := by
        have h1 := gripT_nn (w := y) (t := t) (o := o) hs
        have h2 := HK.out
        have h3 := HT1.out
        omega
      by_cases hc : gripG y t s o = y
      · have hz := gripT_rest hs hc
        have hk0 : Hid (gripM x t s o = k) := by
          show gripM x t s o = k
          rw [HM.out]
          have := HK.out
          omega
        clear hz
        have e1 : gripF y t s o = y := e0.trans hc
        clear e0 hc
        go_wp2_with (go_at_call 19; refine (sGrip_any _ _ _ _ _).mono ?_; rintro e w' ⟨rfl, rfl⟩)
        go_ret
        exact ⟨ret_i64 hk0.out.symm, rfl⟩
      · have hst := gripT_step hs hc
        have hnn := gripT_nn (w := gripG y t s o) (t := t) (o := o) hs
        have HS := Lib.hid hst
        have HN := Lib.hid hnn
        have b : (gripG y t s o == y) = false := by simp; exact hc
        have HBn := Lib.hid (gripB_next HY.out)
        clear hst hnn hc
        go_wp2_with (go_at_call 19; refine (sGrip_any _ _ _ _ _).mono ?_; rintro e w' ⟨rfl, rfl⟩)
        go_round
        case rel => exact ⟨gripG y t s o, k + 1, rfl, by go_num, HBn, by have h1 := HS.out; have h2 := HK.out; show _ + ((k + 1 : Nat) : Int) = _; omega⟩
        case measure => have h1 := HS.out; have h2 := HN.out; simp [intOf]; omega

end Go.Proofs.Ytjklepabliehdaa
