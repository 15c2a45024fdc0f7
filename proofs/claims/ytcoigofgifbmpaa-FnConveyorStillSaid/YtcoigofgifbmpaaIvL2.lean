/-
  The walks of the laws on the time of a pick and on a conveyor that stands still. No condition.
-/
import Derived.Test.YtcoigofgifbmpaaIvD
namespace Go.Proofs.Ytcoigofgifbmpaa
open Go.RowKit

theorem pickN_first {p s lo hi : Int} : ∀ (k : Nat) (t u : Int), 0 ≤ t → t ≤ u → u < pickN p s lo hi k t → inB (p + s * u) lo hi = false
  | 0, t, u, h0, h1, h2 => by rw [pickN] at h2; omega
  | k + 1, t, u, h0, h1, h2 => by
    rw [pickN] at h2
    split at h2
    · omega
    · rename_i hn
      by_cases e : u = t
      · subst e; simpa using hn
      · exact pickN_first k (t + 1) u (by omega) (by omega) h2

theorem pickN_still {p lo hi : Int} (h : inB p lo hi = false) : ∀ (k : Nat) (t : Int), pickN p 0 lo hi k t = -1
  | 0, _ => rfl
  | k + 1, t => by
    rw [pickN, Int.zero_mul, Int.add_zero, h]
    exact pickN_still h k (t + 1)

theorem pick_law {p s lo hi r : Int} : (pickF p s lo hi r = -1) ∨ (0 ≤ pickF p s lo hi r ∧ pickF p s lo hi r ≤ 2000 ∧ ((0 ≤ s ∧ s ≤ 200) ∧ (-10000 ≤ p ∧ p ≤ 10000)) ∧ r ≤ pickF p s lo hi r ∧ (lo ≤ p + s * pickF p s lo hi r ∧ p + s * pickF p s lo hi r ≤ hi) ∧
    (pickF p s lo hi r = r ∨ p + s * (pickF p s lo hi r - 1) < lo ∨ hi < p + s * (pickF p s lo hi r - 1)) ∧ (pickF p s lo hi (r + 1) < 0 ∨ pickF p s lo hi r ≤ pickF p s lo hi (r + 1))) := by
  cases hB : pickB p s lo hi r with
  | false => left; rw [pickF, hB]; rfl
  | true =>
    obtain ⟨⟨hs, _⟩, hp, r0, r1⟩ := pickB_t.1 hB
    have e : pickF p s lo hi r = pickG p s lo hi r := by rw [pickF, if_pos hB]
    rw [e]
    rcases pickG_bd (p := p) (s := s) (lo := lo) (hi := hi) r0 with h | ⟨h1, h2, h3⟩
    · exact .inl h
    · right
      refine ⟨by omega, h2, ⟨hs, hp⟩, h1, inB_t.1 h3, ?_, ?_⟩
      · by_cases ht : pickG p s lo hi r = r
        · exact .inl ht
        · right
          have := pickN_first (p := p) (s := s) (lo := lo) (hi := hi) (2001 - r).toNat r (pickG p s lo hi r - 1) r0 (by omega) (by show _ < pickG p s lo hi r; omega)
          exact inB_f.1 this
      · by_cases hl : pickF p s lo hi (r + 1) < 0
        · exact .inl hl
        · right
          have hB2 : pickB p s lo hi (r + 1) = true := by
            cases hb : pickB p s lo hi (r + 1) with
            | true => rfl
            | false => exact absurd (show pickF p s lo hi (r + 1) < 0 by rw [pickF, hb, if_neg (by decide)]; decide) hl
          have e2 : pickF p s lo hi (r + 1) = pickG p s lo hi (r + 1) := by rw [pickF, if_pos hB2]
          rw [e2] at hl ⊢
          rcases pickG_bd (p := p) (s := s) (lo := lo) (hi := hi) (r := r + 1) (by omega) with h | ⟨g1, g2, g3⟩
          · omega
          · refine Classical.byContradiction fun hlt => ?_
            have := pickN_first (p := p) (s := s) (lo := lo) (hi := hi) (2001 - r).toNat r (pickG p s lo hi (r + 1)) r0 (by omega) (by show _ < pickG p s lo hi r; omega)
            rw [g3] at this
            cases this

theorem still_law {p lo hi r : Int} : ((hi < lo ∨ r < 0 ∨ 2000 < r) ∧ pickF p 0 lo hi r = -1) ∨ (¬ hi < lo ∧ ¬ r < 0 ∧ ¬ 2000 < r ∧ (-10000 ≤ p → p ≤ 10000 → -10000 ≤ lo → lo ≤ 10000 → hi ≤ 10000 → (inB p lo hi = true ∧ pickF p 0 lo hi r = r) ∨ (inB p lo hi = false ∧ pickF p 0 lo hi r = -1))) := by
  by_cases h : hi < lo ∨ r < 0 ∨ 2000 < r
  · refine .inl ⟨h, ?_⟩
    rw [pickF, if_neg]
    intro hB
    have := pickB_t.1 hB
    omega
  · refine .inr ⟨by omega, by omega, by omega, fun h1 h2 h3 h4 h5 => ?_⟩
    have hB : pickB p 0 lo hi r = true := pickB_t.2 ⟨⟨by omega, by omega, by omega, h5⟩, by omega, by omega⟩
    rw [pickF, if_pos hB]
    cases hb : inB p lo hi with
    | true =>
      refine .inl ⟨rfl, ?_⟩
      unfold pickG
      exact pickN_hit (by omega) (by rw [Int.zero_mul, Int.add_zero]; exact hb)
    | false => exact .inr ⟨rfl, pickN_still hb _ _⟩

set_option maxHeartbeats 1000000 in
theorem lawPickTime_any (a : Option Addr) (n c : Nat) (w : World) (hb : Bytes w w.heap.size a n) (hnc : n ≤ c) (hcm : c ≤ maxLen) :
    Calls Try.prog 6 #[.slice a n c] w fun e w' => e = .returned (.bool true) ∧ Up w w' := by
  have hmm : c ≤ 9223372036854775807 := by unfold maxLen at hcm; omega
  by_cases hn : n ≤ 1048576
  · go_enter Try.func6, Try.ntmps6
    go_wp2_with (go_at_call 19; refine (drawPickTime_any _ _ _ _ hb hnc hcm).mono ?_; rintro e w1 ⟨p, s, l, h, r, hD, rfl, os0, d0, rfl⟩)
    obtain ⟨⟨p0, p1⟩, ⟨⟨s0, s1⟩, ⟨l0, l1⟩, h0, h1⟩, r0, r1⟩ := hD
    have hlaw := pick_law (p := p) (s := s) (lo := l) (hi := h) (r := r)
    have c1 := fun W => pickTime_any p s l h r W
    have c2 := fun W => sPickTime_any p s l h r W
    have c3 := fun W => pickTime_any p s l h (r + 1) W
    have wr : IntKind.i64.wrap (r + 1) = r + 1 := IntWalk.i64_in _ (by omega)
    generalize pickF p s l h r = t at hlaw c1 c2
    generalize pickF p s l h (r + 1) = u at hlaw c3
    clear hb
    rcases hlaw with rfl | ⟨t0, t1, ⟨⟨q0, q1⟩, _⟩, rt, ⟨a0, a1⟩, hE, hL⟩
    · go_wp2_with (first | (go_at_call 13; refine (c1 _).mono ?_; rintro e w' ⟨rfl, rfl⟩) | (go_at_call 12; refine (c2 _).mono ?_; rintro e w' ⟨rfl, rfl⟩) | (go_at_call 20; refine (alive_any _).mono ?_; rintro e w' ⟨rfl, rfl⟩))
      go_ret
      exact ⟨rfl, _, _, rfl⟩
    · have hm1 := mul_bd (a := s) (b := t) (A := 200) (B := 2000) q0 q1 (by omega) (by omega)
      have hm2 := mul_bd (a := s) (b := t - 1) (A := 200) (B := 2000) q0 q1 (by omega) (by omega)
      have w1 : IntKind.i64.wrap (s * t) = s * t := IntWalk.i64_in _ (by omega)
      have w2 : IntKind.i64.wrap (p + s * t) = p + s * t := IntWalk.i64_in _ (by omega)
      have w3 : IntKind.i64.wrap (t - 1) = t - 1 := IntWalk.i64_in _ (by omega)
      have w4 : IntKind.i64.wrap (s * (t - 1)) = s * (t - 1) := IntWalk.i64_in _ (by omega)
      have w5 : IntKind.i64.wrap (p + s * (t - 1)) = p + s * (t - 1) := IntWalk.i64_in _ (by omega)
      obtain ⟨A, hA⟩ : ∃ A, A = p + s * t := ⟨_, rfl⟩
      obtain ⟨E, hE'⟩ : ∃ E, E = p + s * (t - 1) := ⟨_, rfl⟩
      replace w2 := w2.trans hA.symm
      replace w5 := w5.trans hE'.symm
      rw [← hA] at a0 a1
      rw [← hE'] at hE
      clear hm1 hm2 hA hE'
      have ht : ¬ t < 0 := by omega
      have hrt : ¬ t < r := by omega
      have hal : ¬ A < l := by omega
      have hah : ¬ h < A := by omega
      have hu : u < 0 ∨ (¬ u < 0 ∧ t ≤ u ∧ ¬ u < t) := by omega
      clear hL
      have C1 := Lib.hid c1
      have C2 := Lib.hid c2
      have C3 := Lib.hid c3
      clear c1 c2 c3
      by_cases htr : t = r
      · subst htr
        clear hE
        rcases hu with hu0 | ⟨hu0, hu1, hu2⟩
        · go_wp2_with fail
          refine (C1.out _).mono ?_
          rintro e w' ⟨rfl, rfl⟩
          go_wp2_with fail
          refine (C2.out _).mono ?_
          rintro e w' ⟨rfl, rfl⟩
          go_wp2_with fail
          refine (C3.out _).mono ?_
          rintro e w' ⟨rfl, rfl⟩
          go_wp2
          go_ret
          exact ⟨rfl, _, _, rfl⟩
        · go_wp2_with fail
          refine (C1.out _).mono ?_
          rintro e w' ⟨rfl, rfl⟩
          go_wp2_with fail
          refine (C2.out _).mono ?_
          rintro e w' ⟨rfl, rfl⟩
          go_wp2_with fail
          refine (C3.out _).mono ?_
          rintro e w' ⟨rfl, rfl⟩
          go_wp2
          go_ret
          exact ⟨rfl, _, _, rfl⟩
      · have htr' : (t == r) = false := by simp; exact htr
        by_cases hel : E < l
        · rcases hu with hu0 | ⟨hu0, hu1, hu2⟩
          · go_wp2_with fail
            refine (C1.out _).mono ?_
            rintro e w' ⟨rfl, rfl⟩
            go_wp2_with fail
            refine (C2.out _).mono ?_
            rintro e w' ⟨rfl, rfl⟩
            go_wp2_with fail
            refine (C3.out _).mono ?_
            rintro e w' ⟨rfl, rfl⟩
            go_wp2
            go_ret
            exact ⟨rfl, _, _, rfl⟩
          · go_wp2_with fail
            refine (C1.out _).mono ?_
            rintro e w' ⟨rfl, rfl⟩
            go_wp2_with fail
            refine (C2.out _).mono ?_
            rintro e w' ⟨rfl, rfl⟩
            go_wp2_with fail
            refine (C3.out _).mono ?_
            rintro e w' ⟨rfl, rfl⟩
            go_wp2
            go_ret
            exact ⟨rfl, _, _, rfl⟩
        · have her : h < E := by omega
          rcases hu with hu0 | ⟨hu0, hu1, hu2⟩
          · go_wp2_with fail
            refine (C1.out _).mono ?_
            rintro e w' ⟨rfl, rfl⟩
            go_wp2_with fail
            refine (C2.out _).mono ?_
            rintro e w' ⟨rfl, rfl⟩
            go_wp2_with fail
            refine (C3.out _).mono ?_
            rintro e w' ⟨rfl, rfl⟩
            go_wp2
            go_ret
            exact ⟨rfl, _, _, rfl⟩
          · go_wp2_with fail
            refine (C1.out _).mono ?_
            rintro e w' ⟨rfl, rfl⟩
            go_wp2_with fail
            refine (C2.out _).mono ?_
            rintro e w' ⟨rfl, rfl⟩
            go_wp2_with fail
            refine (C3.out _).mono ?_
            rintro e w' ⟨rfl, rfl⟩
            go_wp2
            go_ret
            exact ⟨rfl, _, _, rfl⟩
  · go_enter Try.func6, Try.ntmps6
    go_wp2
    go_ret
    exact ⟨rfl, up_of_below (Below.refl _ _)⟩

set_option maxHeartbeats 1000000 in
theorem lawConveyorStill_any (a : Option Addr) (n c : Nat) (w : World) (hb : Bytes w w.heap.size a n) (hnc : n ≤ c) (hcm : c ≤ maxLen) :
    Calls Try.prog 5 #[.slice a n c] w fun e w' => e = .returned (.bool true) ∧ Up w w' := by
  have hmm : c ≤ 9223372036854775807 := by unfold maxLen at hcm; omega
  by_cases hn : n ≤ 1048576
  · go_enter Try.func5, Try.ntmps5
    go_wp2_with (go_at_call 19; refine (drawPickTime_any _ _ _ _ hb hnc hcm).mono ?_; rintro e w1 ⟨p, s, l, h, r, hD, rfl, os0, d0, rfl⟩)
    obtain ⟨⟨p0, p1⟩, ⟨⟨s0, s1⟩, ⟨l0, l1⟩, h0, h1⟩, r0, r1⟩ := hD
    have hlaw := still_law (p := p) (lo := l) (hi := h) (r := r)
    have c1 := fun W => pickTime_any p 0 l h r W
    have c2 := fun W => sPickTime_any p 0 l h r W
    generalize pickF p 0 l h r = t at hlaw c1 c2
    clear hb
    rcases hlaw with ⟨hx, rfl⟩ | ⟨hx1, hx2, hx3, hx⟩
    · by_cases g1 : h < l <;> by_cases g2 : r < 0 <;> by_cases g3 : 2000 < r
      all_goals try omega
      all_goals
        go_wp2_with (first | (go_at_call 13; refine (c1 _).mono ?_; rintro e w' ⟨rfl, rfl⟩) | (go_at_call 12; refine (c2 _).mono ?_; rintro e w' ⟨rfl, rfl⟩) | (go_at_call 20; refine (alive_any _).mono ?_; rintro e w' ⟨rfl, rfl⟩))
        go_ret
        exact ⟨rfl, _, _, rfl⟩
    · rcases hx (by omega) (by omega) (by omega) (by omega) (by omega) with ⟨hin, rfl⟩ | ⟨hin, rfl⟩
      · obtain ⟨i1, i2⟩ := inB_t.1 hin
        have i1' : ¬ p < l := by omega
        have i2' : ¬ h < p := by omega
        go_wp2_with (first | (go_at_call 13; refine (c1 _).mono ?_; rintro e w' ⟨rfl, rfl⟩) | (go_at_call 12; refine (c2 _).mono ?_; rintro e w' ⟨rfl, rfl⟩))
        go_ret
        exact ⟨rfl, _, _, rfl⟩
      · have hor := inB_f.1 hin
        by_cases i1 : p < l <;> by_cases i2 : h < p
        all_goals try omega
        all_goals
          have i1' : (l ≤ p) = ¬ (p < l) := by simp
          have hr1 : ((-1 : Int) == r) = false := by simp; omega
          go_wp2_with (first | (go_at_call 13; refine (c1 _).mono ?_; rintro e w' ⟨rfl, rfl⟩) | (go_at_call 12; refine (c2 _).mono ?_; rintro e w' ⟨rfl, rfl⟩))
          go_ret
          exact ⟨rfl, _, _, rfl⟩
  · go_enter Try.func5, Try.ntmps5
    go_wp2
    go_ret
    exact ⟨rfl, up_of_below (Below.refl _ _)⟩

end Go.Proofs.Ytcoigofgifbmpaa
