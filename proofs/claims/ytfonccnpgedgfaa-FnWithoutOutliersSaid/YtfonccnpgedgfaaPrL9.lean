/-
  The walk of the law on lists without outliers. No condition.
-/
import Derived.Test.YtfonccnpgedgfaaPrL6
import Derived.Test.YtfonccnpgedgfaaWo
namespace Go.Proofs.Ytfonccnpgedgfaa
open Go.RowKit

/-- The absolute value. -/
def absF (n : Int) : Int := max n (-n)
theorem absF_nat (n : Int) : absF n = (n.natAbs : Int) := by unfold absF; omega
theorem ret_abs {a b : Int} (h : a = b) : Ending.returned (.int .i64 a) = .returned (.int .i64 b) := by rw [h]

set_option maxHeartbeats 400000 in
theorem abs_any (n : Int) (w : World) (h1 : -1000000000000 ≤ n) (h2 : n ≤ 1000000000000) :
    Calls Try.prog 32 #[.int .i64 n] w fun e w' => e = .returned (.int .i64 (absF n)) ∧ w = w' := by
  rcases Int.lt_trichotomy n 0 with c | c | c
  · go_enter Try.func32, Try.ntmps32
    go_wp2
    go_ret
    exact ⟨ret_abs (by unfold absF; omega), rfl⟩
  · subst c
    go_enter Try.func32, Try.ntmps32
    go_wp2
    go_ret
    exact ⟨ret_abs (by unfold absF; omega), rfl⟩
  · go_enter Try.func32, Try.ntmps32
    go_wp2
    go_ret
    exact ⟨ret_abs (by unfold absF; omega), rfl⟩

theorem out_at (zs : List Int) (o l : Int) : ∀ {n k : Nat}, k < n → keepB zs o l k = true → outC zs o l k < outC zs o l n ∧ pX (outL zs o l n) (outC zs o l k) = pX zs k ∧ pY (outL zs o l n) (outC zs o l k) = pY zs k
  | n + 1, k, h, hk => by
    by_cases e : k = n
    · subst e
      rw [outC, outL, if_pos hk, if_pos hk]
      exact ⟨by omega, pX_new (outL_len zs o l k)⟩
    · obtain ⟨h1, h2, h3⟩ := out_at zs o l (show k < n by omega) hk
      rw [outC, outL]
      by_cases hn : keepB zs o l n = true
      · rw [if_pos hn, if_pos hn]
        obtain ⟨e1, e2⟩ := pX_old (x := pX zs n) (y := pY zs n) (outL_len zs o l n) h1
        exact ⟨by omega, e1.trans h2, e2.trans h3⟩
      · rw [if_neg hn, if_neg hn, List.append_nil]
        exact ⟨by omega, h2, h3⟩
theorem outC_wide (zs : List Int) (o l : Int) : ∀ n, outC zs o l n ≤ outC zs o (l + 1) n
  | 0 => Nat.le_refl _
  | n + 1 => by
    have ih := outC_wide zs o l n
    rw [outC, outC]
    by_cases h : keepB zs o l n = true
    · have h' : keepB zs o (l + 1) n = true := by
        unfold keepB at h ⊢
        have := of_decide_eq_true h
        exact decide_eq_true (by omega)
      rw [if_pos h, if_pos h']
      omega
    · rw [if_neg h]
      omega
theorem woC_wide {zs : List Int} {l : Int} {n : Nat} : woC zs l n ≤ woC zs (l + 1) n := by
  unfold woC
  by_cases h : woB zs l n = true
  · have h' : woB zs (l + 1) n = true := by
      unfold woB at h ⊢
      rw [Bool.and_eq_true] at h ⊢
      have := of_decide_eq_true h.2
      exact ⟨h.1, decide_eq_true (by omega)⟩
    rw [if_pos h, if_pos h']
    exact outC_wide _ _ _ _
  · rw [if_neg h]; omega
theorem DrawnW.short {w w' : World} {a : Option Addr} {n c : Nat} {v : List Int} (h : DrawnW w (.slice a n c) n v w') : n ≤ c ∧ c ≤ 9223372036854775807 := by
  obtain ⟨a', c', e, h1, h2, _⟩ := h.2.1.form
  simp only [Value.slice.injEq] at e
  obtain ⟨_, _, rfl⟩ := e
  unfold maxLen at h2
  exact ⟨h1, h2⟩

set_option maxHeartbeats 2000000 in
theorem lawWithoutOutliers_any (a : Option Addr) (n c : Nat) (w : World) (hb : Bytes w w.heap.size a n) (hnc : n ≤ c) (hcm : c ≤ maxLen) :
    Calls Try.prog 11 #[.slice a n c] w fun e w' => e = .returned (.bool true) ∧ Up w w' := by
  have hmm : c ≤ 9223372036854775807 := by unfold maxLen at hcm; omega
  by_cases hn : n ≤ 1048576
  · go_enter Try.func11, Try.ntmps11
    go_wp2_with (go_at_call 29; refine (drawWithoutOutliers_any _ _ _ _ hb hnc hcm).mono ?_; rintro e w1 ⟨m, zs, a1, c1, l, hl, rfl, hD⟩)
    have hz := hD.2.1.len
    obtain ⟨hmc, hc1⟩ := hD.short
    have hm21 := hD.1.1
    have HI := Lib.hid hD.2.1.ints.2
    have HW := Lib.hid hD.2.2
    have HZ := Lib.hid hz
    obtain ⟨hl1, hl2⟩ := hl
    clear hD hz hb
    have C1 := Lib.hid (fun W h => wo_any a1 m c1 zs l W HZ.out h (by omega))
    have C2 := Lib.hid (fun W h => sWo_any a1 m c1 zs l W HZ.out h (by omega))
    have C3 := Lib.hid (fun W h => wo_any a1 m c1 zs (l + 1) W HZ.out h (by omega))
    have hwl : IntKind.i64.wrap (l + 1) = l + 1 := IntWalk.i64_in _ (by omega)
    have hwide := woC_wide (zs := zs) (l := l) (n := m)
    have hF : woF zs l m = if woB zs l m = true then outL zs (fitG zs m) l m else [] := rfl
    have hC : woC zs l m = if woB zs l m = true then outC zs (fitG zs m) l m else 0 := rfl
    have hlen := woF_len zs l m
    have hle := woC_le zs l m
    generalize woC zs (l + 1) m = M' at C3 hwide
    generalize woF zs (l + 1) m = us' at C3
    generalize woF zs l m = us at C1 C2 hF hlen
    generalize woC zs l m = M at C1 C2 hC hlen hwide hle
    have HF := Lib.hid hF
    have HC := Lib.hid hC
    have HL := Lib.hid hlen
    clear hF hC hlen
    go_wp2_with fail
    refine (C1.out _ HI.out).mono ?_
    rintro e w2 ⟨a2, k2, rfl, hO, hB⟩
    have HI2 := Lib.hid (HI.out.below hB)
    have HU2 := Lib.hid hO.ints.2
    have HW2 := Lib.hid (HW.out.trans (hB.mono HW.out.size))
    clear hO hB HI HW
    go_wp2_with fail
    refine (C2.out _ HI2.out).mono ?_
    rintro e w3 ⟨a3, k3, rfl, hO, hB⟩
    have HI3 := Lib.hid (HI2.out.below hB)
    have HU3 := Lib.hid (HU2.out.below hB)
    have HV3 := Lib.hid hO.ints.2
    have HW3 := Lib.hid (HW2.out.trans (hB.mono HW2.out.size))
    clear hO hB HI2 HU2 HW2 C1 C2
    go_wp2_with fail
    refine (sValid_any _ _ _ zs _ HZ.out HI3.out (by omega)).mono ?_
    rintro e w' ⟨rfl, rfl⟩
    cases hp : pairsB m zs
    · have hM : M = 0 := by rw [HC.out, woB, hp]; rfl
      subst hM
      clear hwide
      go_wp2_with (first | (go_at_call 24; refine (alive_any _).mono ?_; rintro e w' ⟨rfl, rfl⟩))
      go_ret
      exact ⟨rfl, up_of_below HW3.out⟩
    · by_cases hl0 : l < 0
      · have hM : M = 0 := by rw [HC.out, woB, hp, decide_eq_false (by omega)]; rfl
        subst hM
        clear hwide
        go_wp2_with (first | (go_at_call 24; refine (alive_any _).mono ?_; rintro e w' ⟨rfl, rfl⟩))
        go_ret
        exact ⟨rfl, up_of_below HW3.out⟩
      · have hM : M = outC zs (fitG zs m) l m := by rw [HC.out, woB, hp, decide_eq_true (by omega)]; rfl
        have hu : us = outL zs (fitG zs m) l m := by rw [HF.out, woB, hp, decide_eq_true (by omega)]; rfl
        have hfit : fitF zs m = fitG zs m := by rw [fitF, if_pos hp]
        have cf := fun W h => fit_any a1 m c1 zs W HZ.out h (by omega)
        rw [hfit] at cf
        have CF := Lib.hid cf
        have HP := Lib.hid (pairsB_t.1 hp)
        have hob := fitG_bd (zs := zs) (n := m) (A := -2000) (B := 2000) (by have := HP.out.1.1; omega) (fun j hj => pD_bd (HP.out.2 j hj))
        clear cf hp hfit HC HF
        generalize fitG zs m = o at CF hM hu hob
        obtain ⟨ho1, ho2⟩ := hob
        have HM := Lib.hid hM
        have HU := Lib.hid hu
        clear hM hu
        go_wp2_with fail
        refine (CF.out _ HI3.out).mono ?_
        rintro e w4 ⟨rfl, hU⟩
        have HI4 := Lib.hid (HI3.out.below hU.below)
        have HU4 := Lib.hid (HU3.out.below hU.below)
        have HV4 := Lib.hid (HV3.out.below hU.below)
        have HW4 := Lib.hid (HW3.out.trans (hU.below.mono HW3.out.size))
        clear hU HI3 HU3 HV3 HW3 CF
        go_wp2
        go_loopw [8, 9] (fun av iv wr => ∃ j : Nat, j ≤ m ∧ iv = .int .i64 j ∧ av = .int .i64 (outC zs o l j : Nat) ∧ Hid (Ints wr a1 zs) ∧ Hid (Ints wr a2 us) ∧ Hid (Ints wr a3 us) ∧ Hid (Below w.heap.size w wr)) (fun _ iv _ => m - (intOf iv).toNat)
        case atStart => exact ⟨0, Nat.zero_le _, rfl, rfl, HI4, HU4, HV4, HW4⟩
        case round =>
          obtain ⟨j, hj, rfl, rfl, HI5, HU5, HV5, HW5⟩ := hrel
          by_cases hlt : j < m
          · have hlt' : (j : Int) < (m : Int) := by omega
            obtain ⟨blk, off, rfl, hb5, c0, c1'⟩ := HI5.out.pair HZ.out hlt
            have hok := okP_t.1 (HP.out.2 j hlt)
            obtain ⟨⟨x1, x2⟩, y1, y2⟩ := hok
            have hkeep : keepB zs o l j = decide (absF (pY zs j - pX zs j - o) ≤ l) := rfl
            have hnext : outC zs o l (j + 1) = outC zs o l j + (if keepB zs o l j = true then 1 else 0) := rfl
            have hat := fun h => out_at zs o l (n := m) hlt h
            rw [← HU.out, ← HM.out] at hat
            have hAle := outC_le zs o l j
            generalize outC zs o l j = A at hnext hat hAle ⊢
            generalize pX zs j = x at c0 x1 x2 hkeep hat
            generalize pY zs j = y at c1' y1 y2 hkeep hat
            generalize keepB zs o l j = kb at hkeep hnext hat
            have w1 : IntKind.i64.wrap (y - x) = y - x := IntWalk.i64_in _ (by omega)
            obtain ⟨D, hDD⟩ : ∃ D, D = y - x - o := ⟨_, rfl⟩
            have w2 : IntKind.i64.wrap (y - x - o) = D := by rw [hDD]; exact IntWalk.i64_in _ (by omega)
            rw [← hDD] at hkeep
            have cA := fun W => (abs_any D W (by omega) (by omega)).mono (R' := fun e w' => e = .returned (.int .i64 (absF D)) ∧ w' = W) fun _ _ h => ⟨h.1, h.2.symm⟩
            generalize absF D = E at hkeep cA
            have CA := Lib.hid cA
            have HN := Lib.hid hnext
            have HA := Lib.hid hat
            clear hDD cA hnext hat
            by_cases hk : E ≤ l
            · have hkb : kb = true := by rw [hkeep]; exact decide_eq_true hk
              subst hkb
              obtain ⟨q1, q2, q3⟩ := HA.out rfl
              obtain ⟨b2, o2, rfl, hb2, d0, d1⟩ := HU5.out.pair HL.out q1
              obtain ⟨b3, o3, rfl, hb3, e0, e1⟩ := HV5.out.pair HL.out q1
              rw [q2] at d0 e0
              rw [q3] at d1 e1
              have HN2 : Hid (outC zs o l (j + 1) = A + 1) := HN
              have g1 : ¬ ((M : Int) ≤ (A : Int)) := by omega
              have g2 : decide ((M : Int) ≤ (A : Int)) = false := by simp; omega
              have g3 : (A : Int) < (M : Int) := by omega
              have g4 : ¬ (l < E) := by omega
              have wA : IntKind.i64.wrap ((A : Int) + 1) = A + 1 := IntWalk.i64_in _ (by omega)
              clear hkeep HN HA q2 q3
              go_wp2
              go_quiet (first | (go_at_call 32; refine Calls.quiet_of_same (CA.out _)))
              go_wp2
              trace_state
              go_quiet (fail)
              go_wp2
              go_roundw
              case rel => exact ⟨j + 1, by omega, by go_num, by rw [HN2.out]; rfl, HI5.out.below (Below.dN (Below.refl _ _) _), HU5.out.below (Below.dN (Below.refl _ _) _), HV5.out.below (Below.dN (Below.refl _ _) _), Below.dN HW5.out _⟩
              case measure => simp [intOf]; omega
            · have hkb : kb = false := by rw [hkeep]; exact decide_eq_false hk
              subst hkb
              have HN2 : Hid (outC zs o l (j + 1) = A) := HN
              have g4 : l < E := by omega
              clear hkeep HN HA
              go_wp2
              go_quiet (first | (go_at_call 32; refine Calls.quiet_of_same (CA.out _)))
              go_wp2
              go_roundw
              case rel => exact ⟨j + 1, by omega, by go_num, by rw [HN2.out], HI5.out.below (Below.dN (Below.refl _ _) _), HU5.out.below (Below.dN (Below.refl _ _) _), HV5.out.below (Below.dN (Below.refl _ _) _), Below.dN HW5.out _⟩
              case measure => simp [intOf]; omega
          · have hlt' : ¬ (j : Int) < (m : Int) := by omega
            obtain rfl : j = m := by omega
            rw [← HM.out]
            have hge : (M : Int) ≤ (M' : Int) := by omega
            go_wp2_with fail
            refine (C3.out _ HI5.out).mono ?_
            rintro e w6 ⟨a6, k6, rfl, hO, hB⟩
            have HW6 := Lib.hid (HW5.out.trans (hB.mono HW5.out.size))
            clear hO hB
            go_wp2
            go_ret
            exact ⟨rfl, up_of_below HW6.out⟩
  · go_enter Try.func11, Try.ntmps11
    go_wp2
    go_ret
    exact ⟨rfl, up_of_below (Below.refl _ _)⟩

end Go.Proofs.Ytfonccnpgedgfaa
