/-
  The walk of the law on plans of picks. Condition: the list is one that a law can be handed.
-/
import Derived.Test.YtcoigofgifbmpaaIvL3
import Derived.Test.YtcoigofgifbmpaaPp
namespace Go.Proofs.Ytcoigofgifbmpaa
open Go.RowKit

/-- One step of a plan, as the law reads it. -/
theorem plan_step {zs : List Int} {s lo hi : Int} {n j : Nat} (hp : itemsB n zs = true) (hc : convB s lo hi = true) (hj : j < n) :
    ∃ t r x y, planT zs s lo hi j = t ∧ planR zs s lo hi j = r ∧ pX zs j = x ∧ pY zs j = y ∧ (0 ≤ r ∧ r ≤ 2100) ∧ (-10000 ≤ x ∧ x ≤ 10000) ∧ (1 ≤ y ∧ y ≤ 100) ∧ (-1 ≤ t ∧ t ≤ 2000) ∧ planR zs s lo hi (j + 1) = (if 0 ≤ t then t + y else r) ∧ (0 ≤ t → r ≤ t ∧ (-10000 ≤ s * t ∧ s * t ≤ 400000) ∧ lo ≤ x + s * t ∧ x + s * t ≤ hi) := by
  have hok := (itemsB_t.1 hp).2
  obtain ⟨⟨x1, x2⟩, y1, y2⟩ := okI_t.1 (hok j hj)
  have hR := planR_bd (zs := zs) (s := s) (lo := lo) (hi := hi) (n := j) (fun i hi => hok i (by omega))
  have htb := pickG_bd (p := pX zs j) (s := s) (lo := lo) (hi := hi) (r := planR zs s lo hi j) hR.1
  have hs := (convB_t.1 hc).1
  refine ⟨_, _, _, _, rfl, rfl, rfl, rfl, hR, ⟨x1, x2⟩, ⟨y1, y2⟩, ?_, rfl, ?_⟩
  · unfold planT; omega
  · intro h0
    unfold planT at h0 ⊢
    rcases htb with h1 | ⟨h1, h2, h3⟩
    · omega
    · generalize pickG (pX zs j) s lo hi (planR zs s lo hi j) = t at h0 h1 h2 h3 ⊢
      have h4 := inB_t.1 h3
      have h5 := Int.mul_nonneg hs.1 h0
      have h6 := Int.mul_le_mul hs.2 h2 h0 (by omega)
      refine ⟨h1, ⟨by omega, by omega⟩, h4⟩

set_option maxHeartbeats 2000000 in
theorem lawPickPlan_any (a : Option Addr) (n c : Nat) (w : World) (hb : Bytes w w.heap.size a n) (hnc : n ≤ c) (hcm : c ≤ maxLen) :
    Calls Try.prog 9 #[.slice a n c] w fun e w' => e = .returned (.bool true) ∧ Up w w' := by
  have hmm : c ≤ 9223372036854775807 := by unfold maxLen at hcm; omega
  by_cases hn : n ≤ 1048576
  · go_enter Try.func9, Try.ntmps9
    go_wp2_with (go_at_call 24; refine (drawPickPlan_any _ _ _ _ hb hnc hcm).mono ?_; rintro e w1 ⟨m, zs, g, c1, s, l, h, hWD, rfl, hD⟩)
    have hz := hD.2.1.len
    obtain ⟨hmc, hc1⟩ := hD.short
    have hm16 := hD.1.1
    have HI := Lib.hid hD.2.1.ints.2
    have HW := Lib.hid hD.2.2
    have HZ := Lib.hid hz
    have HD := Lib.hid hWD
    have hlen := planF_len zs s l h m
    have hF : planF zs s l h m = if planB zs s l h m = true then planL zs s l h m else [] := rfl
    have C1 := Lib.hid (fun W (hi : Ints W (some ⟨g, 0, none⟩) zs) => plan_any (some ⟨g, 0, none⟩) m c1 zs s l h W HZ.out hi (by omega))
    have C2 := Lib.hid (fun W (hi : Ints W (some ⟨g, 0, none⟩) zs) => sPlan_any (some ⟨g, 0, none⟩) m c1 zs s l h W HZ.out hi (by omega))
    clear hD hz hb hWD
    generalize planF zs s l h m = us at hlen hF C1 C2
    have HF := Lib.hid hF
    clear hF
    go_wp2_with fail
    refine (C1.out _ HI.out).mono ?_
    rintro e w2 ⟨a2, n2, rfl, hO2, hB2⟩
    have HI2 := Lib.hid (HI.out.below hB2)
    have HW2 := Lib.hid (HW.out.trans (hB2.mono HW.out.size))
    have HO2 := Lib.hid hO2.ints.2
    clear hO2 hB2
    go_wp2_with fail
    refine (C2.out _ HI2.out).mono ?_
    rintro e w3 ⟨a3, n3, rfl, hO3, hB3⟩
    have HO3 := Lib.hid hO3.ints.2
    have HOB := Lib.hid (HO2.out.below hB3)
    have HI3 := Lib.hid (HI2.out.below hB3)
    have HW3 := Lib.hid (HW2.out.trans (hB3.mono HW2.out.size))
    clear hO3 hB3
    go_wp2_with fail
    refine (sameInts_any _ _ _ _ _ us _ HOB.out HO3.out rfl (by omega)).mono ?_
    rintro e w4 ⟨rfl, e4, rfl⟩
    have HI4 := Lib.hid (HI3.out.below (below_drw (Below.refl _ _) e4))
    have HU4 := Lib.hid (HOB.out.below (below_drw (Below.refl _ _) e4))
    have HW4 := Lib.hid (below_drw HW3.out e4)
    clear HI3 HI2 HO3 HOB HW3 HW2 HO2 C1 C2
    generalize drw w3 e4 = W4 at HI4 HU4 HW4 ⊢
    cases hp : planB zs s l h m
    · have hu : us = [] := by rw [HF.out, hp]; rfl
      subst hu
      clear HF
      go_wp2
      go_loopw [8, 9, 10] (fun _ iv _ wr => iv = .int .i64 0 ∧ wr = W4) (fun _ _ _ _ => 0)
      case atStart => exact ⟨rfl, rfl⟩
      case round =>
        obtain ⟨rfl, rfl⟩ := hrel
        go_wp2_with (first | (go_at_call 20; refine (alive_any _).mono ?_; rintro e w' ⟨rfl, rfl⟩))
        go_ret
        exact ⟨rfl, up_of_below HW4.out⟩
    · have hu : us = planL zs s l h m := by rw [HF.out, hp]; rfl
      have hul : us.length = m := by rw [hu, planL_len]
      rw [planB, Bool.and_eq_true] at hp
      have HP := Lib.hid hp
      have HU := Lib.hid hu
      have HL := Lib.hid hul
      rw [hul]
      clear hp hu hul HF
      go_wp2
      go_loopw [8, 9, 10] (fun rv iv _ wr => ∃ j : Nat, j ≤ m ∧ iv = .int .i64 j ∧ rv = .int .i64 (planR zs s l h j) ∧ Hid (Ints wr (some ⟨g, 0, none⟩) zs) ∧ Hid (Ints wr a2 us) ∧ Hid (Below w.heap.size w wr)) (fun _ iv _ _ => m - (intOf iv).toNat)
      case atStart => exact ⟨0, Nat.zero_le _, rfl, rfl, HI4, HU4, HW4⟩
      case round =>
        obtain ⟨j, hj, rfl, rfl, HI5, HU5, HW5⟩ := hrel
        by_cases hlt : j < m
        · have hlt' : (j : Int) < (m : Int) := by omega
          have hltc : (j : Int) < (c1 : Int) := by omega
          obtain ⟨blk, off, he, hb, c0, c1'⟩ := HI5.out.pair HZ.out hlt
          simp only [Option.some.injEq, Addr.mk.injEq, and_true] at he
          obtain ⟨rfl, rfl⟩ := he
          rcases HU5.out with h0 | ⟨b2, o2, rfl, hc2⟩
          · exfalso; have := HL.out; rw [h0] at this; simp at this; omega
          rw [Nat.zero_add] at c0 c1'
          have cu := hc2 j (by rw [HL.out]; exact hlt)
          rw [HU.out, planL_at zs s l h hlt] at cu
          clear hc2
          obtain ⟨t, r, x, y, et, er, ex, ey, hr, hx, hy, ht, hnext, hpick⟩ := plan_step HP.out.1 HP.out.2 hlt
          rw [et] at cu
          rw [ex] at c0
          rw [ey] at c1'
          rw [er]
          have HN := Lib.hid hnext
          clear et er ex ey hnext
          by_cases ht0 : t < 0
          · have HN2 : Hid (planR zs s l h (j + 1) = r) := by show _ = _; rw [HN.out, if_neg (by omega)]
            clear HN hpick
            go_wp2
            go_roundw
            case rel => exact ⟨j + 1, by omega, by go_num, by rw [HN2.out], HI5, HU5, HW5⟩
            case measure => simp [intOf]; omega
          · have HN2 : Hid (planR zs s l h (j + 1) = t + y) := by show _ = _; rw [HN.out, if_pos (by omega)]
            obtain ⟨q1, ⟨q2, q3⟩, q4, q5⟩ := hpick (by omega)
            obtain ⟨d, hd⟩ : ∃ d, d = s * t := ⟨_, rfl⟩
            have wa : IntKind.i64.wrap (s * t) = d := (IntWalk.i64_in _ (by omega)).trans hd.symm
            rw [← hd] at q2 q3 q4 q5
            have wb : IntKind.i64.wrap (x + d) = x + d := IntWalk.i64_in _ (by omega)
            have wc : IntKind.i64.wrap (t + y) = t + y := IntWalk.i64_in _ (by omega)
            have n1 : ¬ t < r := by omega
            have n2 : ¬ x + d < l := by omega
            have n3 : ¬ h < x + d := by omega
            clear HN hpick hd
            go_wp2
            go_region
            go_wp2
            go_region
            go_wp2
            go_roundw
            case rel =>
              have hbb : Below wr.heap.size wr wr.drew.drew := below_drew (below_drew (Below.refl _ _))
              exact ⟨j + 1, by omega, by go_num, by rw [HN2.out], HI5.out.below hbb, HU5.out.below hbb, below_drew (below_drew HW5.out)⟩
            case measure => simp [intOf]; omega
        · have hlt' : ¬ (j : Int) < (m : Int) := by omega
          obtain rfl : j = m := by omega
          go_wp2_with (first | (go_at_call 20; refine (alive_any _).mono ?_; rintro e w' ⟨rfl, rfl⟩))
          all_goals
            go_ret
            exact ⟨rfl, up_of_below HW5.out⟩
  · go_enter Try.func9, Try.ntmps9
    go_wp2
    go_ret
    exact ⟨rfl, up_of_below (Below.refl _ _)⟩

end Go.Proofs.Ytcoigofgifbmpaa
