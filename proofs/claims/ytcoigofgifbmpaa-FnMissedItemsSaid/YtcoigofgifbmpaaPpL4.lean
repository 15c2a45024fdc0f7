/-
  The walk of the law on missed items. Condition: the list is one that a law can be handed.
-/
import Derived.Test.YtcoigofgifbmpaaPpL3
namespace Go.Proofs.Ytcoigofgifbmpaa
open Go.RowKit

theorem pickN_wide {p s lo hi : Int} : ∀ (k : Nat) (t : Int), 0 ≤ t → 0 ≤ pickN p s lo hi k t → 0 ≤ pickN p s lo (hi + 1) k t ∧ pickN p s lo (hi + 1) k t ≤ pickN p s lo hi k t
  | 0, t, _, h => by simp [pickN] at h
  | k + 1, t, h, h1 => by
    have hm : inB (p + s * t) lo hi = true → inB (p + s * t) lo (hi + 1) = true := by
      intro h2
      rw [inB_t] at h2 ⊢
      omega
    rw [pickN] at h1 ⊢
    rw [pickN]
    by_cases c : inB (p + s * t) lo hi = true
    · rw [if_pos c, if_pos (hm c)]
      exact ⟨h, Int.le_refl _⟩
    · rw [if_neg c] at h1 ⊢
      by_cases c' : inB (p + s * t) lo (hi + 1) = true
      · rw [if_pos c']
        refine ⟨h, ?_⟩
        rcases pickN_bd (p := p) (s := s) (lo := lo) (hi := hi) k (t + 1) (by omega) with h3 | ⟨h3, _, _⟩ <;> omega
      · rw [if_neg c']
        exact pickN_wide k (t + 1) (by omega) h1
theorem planT_wide {zs : List Int} {s lo hi : Int} (h : 0 ≤ planT zs s lo hi 0) : 0 ≤ planT zs s lo (hi + 1) 0 ∧ planT zs s lo (hi + 1) 0 ≤ planT zs s lo hi 0 := by
  unfold planT planR pickG at h ⊢
  exact pickN_wide _ _ (Int.le_refl _) h

set_option maxHeartbeats 1000000 in
theorem drawMissedItems_any (a : Option Addr) (n c : Nat) (w : World) (hb : Bytes w w.heap.size a n) (hnc : n ≤ c) (hcm : c ≤ maxLen) :
    Calls Try.prog 32 #[.slice a n c] w fun e w' => ∃ (m : Nat) (zs : List Int) (g c' : Nat) (s l h : Int), WinD s l h ∧ e = .returned (.tuple #[.slice (some ⟨g, 0, none⟩) m c', .int .i64 s, .int .i64 l, .int .i64 h]) ∧ DrawnI w g m c' zs w' := by
  go_enter Try.func32, Try.ntmps32
  go_wp2_with (go_at_call 24; refine (drawPickPlan_any _ _ _ _ hb hnc hcm).mono ?_; rintro e w1 ⟨m, zs, g, c1, s, l, h, hWD, rfl, hD⟩)
  go_wp2
  refine bodyPost_ret (v := .tuple #[.slice (some ⟨g, 0, none⟩) m c1, .int .i64 s, .int .i64 l, .int .i64 h]) (by simp [results, Try.results32, go_sem]) rfl ?_
  exact ⟨m, zs, g, c1, s, l, h, hWD, rfl, hD⟩

set_option maxHeartbeats 2000000 in
theorem lawMissedItems_any (a : Option Addr) (n c : Nat) (w : World) (hb : Bytes w w.heap.size a n) (hnc : n ≤ c) (hcm : c ≤ maxLen) :
    Calls Try.prog 11 #[.slice a n c] w fun e w' => e = .returned (.bool true) ∧ Up w w' := by
  have hmm : c ≤ 9223372036854775807 := by unfold maxLen at hcm; omega
  by_cases hn : n ≤ 1048576
  · go_enter Try.func11, Try.ntmps11
    go_wp2_with (go_at_call 32; refine (drawMissedItems_any _ _ _ _ hb hnc hcm).mono ?_; rintro e w1 ⟨m, zs, g, c1, s, l, h, hWD, rfl, hD⟩)
    have hz := hD.2.1.len
    obtain ⟨hmc, hc1⟩ := hD.short
    have hm16 := hD.1.1
    have HI := Lib.hid hD.2.1.ints.2
    have HW := Lib.hid hD.2.2
    have HZ := Lib.hid hz
    have HD := Lib.hid hWD
    have hlen := planF_len zs s l h m
    have hF : planF zs s l h m = if planB zs s l h m = true then planL zs s l h m else [] := rfl
    have hM : missF zs s l h m = if planB zs s l h m = true then ((negC (planF zs s l h m) m : Nat) : Int) else -1 := rfl
    have C1 := Lib.hid (fun W (hi : Ints W (some ⟨g, 0, none⟩) zs) => plan_any (some ⟨g, 0, none⟩) m c1 zs s l h W HZ.out hi (by omega))
    have C2 := Lib.hid (fun W (hi : Ints W (some ⟨g, 0, none⟩) zs) => plan_any (some ⟨g, 0, none⟩) m c1 zs s l (h + 1) W HZ.out hi (by omega))
    have M1 := Lib.hid (fun W (hi : Ints W (some ⟨g, 0, none⟩) zs) => miss_any (some ⟨g, 0, none⟩) m c1 zs s l h W HZ.out hi (by omega))
    have M2 := Lib.hid (fun W (hi : Ints W (some ⟨g, 0, none⟩) zs) => sMiss_any (some ⟨g, 0, none⟩) m c1 zs s l h W HZ.out hi (by omega))
    clear hD hz hb hWD
    generalize planF zs s l h m = us at hlen hF hM C1
    generalize missF zs s l h m = k at hM M1 M2
    have HF := Lib.hid hF
    have HM := Lib.hid hM
    clear hF hM
    go_wp2_with fail
    refine (M1.out _ HI.out).mono ?_
    rintro e w2 ⟨rfl, hU2⟩
    have HI2 := Lib.hid (HI.out.below hU2.below)
    have HW2 := Lib.hid (HW.out.trans (hU2.below.mono HW.out.size))
    clear hU2
    go_wp2_with fail
    refine (M2.out _ HI2.out).mono ?_
    rintro e w3 ⟨rfl, hU3⟩
    have HI3 := Lib.hid (HI2.out.below hU3.below)
    have HW3 := Lib.hid (HW2.out.trans (hU3.below.mono HW2.out.size))
    clear hU3
    cases hp : planB zs s l h m
    · have hk : k = -1 := by rw [HM.out, hp]; rfl
      subst hk
      clear HM HF
      go_wp2_with (first | (go_at_call 20; refine (alive_any _).mono ?_; rintro e w' ⟨rfl, rfl⟩))
      go_ret
      exact ⟨rfl, up_of_below HW3.out⟩
    · have hu : us = planL zs s l h m := by rw [HF.out, hp]; rfl
      have hk : k = (negC us m : Nat) := by rw [HM.out, hp]; rfl
      have hkm := negC_le us m
      have hul : us.length = m := by rw [hu, planL_len]
      have hdB : planB zs s l (h + 1) m = true := by
        rw [planB, Bool.and_eq_true, convB_t] at hp ⊢
        have := HD.out.2.2
        exact ⟨hp.1, by have := hp.2; omega⟩
      have hfB : planF zs s l (h + 1) m = planL zs s l (h + 1) m := by rw [planF, if_pos hdB]
      rw [hfB] at C2
      have hhb := HD.out.2.2
      have wh : IntKind.i64.wrap (h + 1) = h + 1 := IntWalk.i64_in _ (by omega)
      have hlw : (planL zs s l (h + 1) m).length = m := planL_len _ _ _ _ _
      have hw0 : 0 < m → (planL zs s l (h + 1) m).getD 0 0 = planT zs s l (h + 1) 0 := fun h0 => planL_at _ _ _ _ h0
      have hu0 : 0 < m → us.getD 0 0 = planT zs s l h 0 := fun h0 => by rw [hu]; exact planL_at _ _ _ _ h0
      have hww := planT_wide (zs := zs) (s := s) (lo := l) (hi := h)
      generalize planL zs s l (h + 1) m = vs at C2 hlw hw0
      generalize planT zs s l (h + 1) 0 = tw at hw0 hww
      generalize planT zs s l h 0 = t0 at hu0 hww
      have HL := Lib.hid hul
      have HV := Lib.hid hlw
      have HW0 := Lib.hid hw0
      have HU0 := Lib.hid hu0
      have HWW := Lib.hid hww
      clear hp hu HF HM hfB hdB hhb hw0 hu0 hww
      subst hk
      have hk0 : ¬ ((negC us m : Nat) : Int) < 0 := by omega
      go_wp2_with fail
      refine (C1.out _ HI3.out).mono ?_
      rintro e w4 ⟨a4, n4, rfl, hO4, hB4⟩
      have HI4 := Lib.hid (HI3.out.below hB4)
      have HU4 := Lib.hid hO4.ints.2
      have HW4 := Lib.hid (HW3.out.trans (hB4.mono HW3.out.size))
      rw [HL.out]
      clear hO4 hB4 hul hlw hk0 hlen
      go_wp2_with fail
      go_loopw [9, 10] (fun mv iv wr => ∃ j : Nat, j ≤ m ∧ iv = .int .i64 j ∧ mv = .int .i64 (negC us j : Nat) ∧ wr = w4) (fun _ iv _ => m - (intOf iv).toNat)
      case atStart => exact ⟨0, Nat.zero_le _, rfl, rfl, rfl⟩
      case round =>
        obtain ⟨j, hj, rfl, rfl, rfl⟩ := hrel
        by_cases hlt : j < m
        · have hlt' : (j : Int) < (m : Int) := by omega
          rcases HU4.out with h0 | ⟨blk, off, rfl, hc⟩
          · exfalso; have := HL.out; rw [h0] at this; simp at this; omega
          have c0 := hc j (by rw [HL.out]; exact hlt)
          clear hc
          have HN : Hid (negC us (j + 1) = negC us j + (if us.getD j 0 < 0 then 1 else 0)) := rfl
          have hle := negC_le us j
          clear hkm
          generalize us.getD j 0 = t at c0 HN
          generalize negC us j = k at HN hle ⊢
          have wk : IntKind.i64.wrap ((k : Int) + 1) = k + 1 := IntWalk.i64_in _ (by omega)
          by_cases ht : t < 0
          · have HN2 := HN
            rw [if_pos ht] at HN2
            go_wp2
            go_roundw
            case rel => exact ⟨j + 1, by omega, by go_num, by rw [HN2.out]; rfl, by first | rfl | trivial⟩
            case measure => simp [intOf]; omega
          · have HN2 := HN
            rw [if_neg ht] at HN2
            go_wp2
            go_roundw
            case rel => exact ⟨j + 1, by omega, by go_num, by rw [HN2.out]; rfl, by first | rfl | trivial⟩
            case measure => simp [intOf]; omega
        · have hlt' : ¬ (j : Int) < (m : Int) := by omega
          obtain rfl : j = m := by omega
          go_wp2_with fail
          refine (C2.out _ HI4.out).mono ?_
          rintro e w5 ⟨a5, n5, rfl, hO5, hB5⟩
          have HV5 := Lib.hid hO5.ints.2
          have HU5 := Lib.hid (HU4.out.below hB5)
          have HW5 := Lib.hid (HW4.out.trans (hB5.mono HW4.out.size))
          rw [HV.out]
          clear hO5 hB5
          by_cases hj0 : j = 0
          · subst hj0
            have hng : negC us 0 = 0 := rfl
            rw [hng]
            clear hng hkm
            go_wp2
            go_region
            go_wp2
            go_ret
            first | exact ⟨rfl, up_of_below HW5.out⟩ | exact ⟨rfl, up_of_below (below_drew HW5.out)⟩
          · have hjp : (0 : Int) < (j : Int) := by omega
            have hje : ((j : Int) == 0) = false := by simp; omega
            rcases HU5.out with h0 | ⟨b6, o6, rfl, hc6⟩
            · exfalso; have := HL.out; rw [h0] at this; simp at this; omega
            rcases HV5.out with h0 | ⟨b7, o7, rfl, hc7⟩
            · exfalso; have := HV.out; rw [h0] at this; simp at this; omega
            have c6 := hc6 0 (by rw [HL.out]; omega)
            have c7 := hc7 0 (by rw [HV.out]; omega)
            rw [HU0.out (by omega), Nat.add_zero] at c6
            rw [HW0.out (by omega), Nat.add_zero] at c7
            clear hc6 hc7
            have hkk : ((negC us j : Nat) : Int) ≤ (j : Int) := by omega
            generalize negC us j = kk at hkk hkm ⊢
            by_cases ht : t0 < 0
            · go_wp2
              go_region
              go_wp2
              go_ret
              first | exact ⟨rfl, up_of_below HW5.out⟩ | exact ⟨rfl, up_of_below (below_drew HW5.out)⟩
            · obtain ⟨q1, q2⟩ := HWW.out (by omega)
              have q3 : 0 ≤ t0 := by omega
              go_wp2
              have ht2 : ¬ t0 < 0 := by omega
              have hb0 : decide (t0 < 0) = false := by simp; omega
              have hjn : 0 < j := by omega
              go_region
              go_wp2
              go_ret
              first | exact ⟨rfl, up_of_below HW5.out⟩ | exact ⟨rfl, up_of_below (below_drew HW5.out)⟩
  · go_enter Try.func11, Try.ntmps11
    go_wp2
    go_ret
    exact ⟨rfl, up_of_below (Below.refl _ _)⟩

end Go.Proofs.Ytcoigofgifbmpaa
