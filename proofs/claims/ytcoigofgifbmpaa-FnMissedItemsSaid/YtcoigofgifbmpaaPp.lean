/-
  Contracts of the functions on plans of picks (program and reference). Conditions: those that each theorem states.
-/
import Derived.Test.YtcoigofgifbmpaaIv
import Derived.Test.YtcoigofgifbmpaaCv
import Derived.Test.YtcoigofgifbmpaaApp
namespace Go.Proofs.Ytcoigofgifbmpaa
open Go.RowKit

theorem pickN_bd {p s lo hi : Int} : ∀ (k : Nat) (t : Int), 0 ≤ t → pickN p s lo hi k t = -1 ∨ (t ≤ pickN p s lo hi k t ∧ pickN p s lo hi k t < t + k ∧ inB (p + s * pickN p s lo hi k t) lo hi = true)
  | 0, t, _ => .inl rfl
  | k + 1, t, h => by
    rw [pickN]
    split
    · rename_i hb
      exact .inr ⟨Int.le_refl _, by omega, hb⟩
    · rcases pickN_bd k (t + 1) (by omega) with h1 | ⟨h1, h2, h3⟩
      · exact .inl h1
      · exact .inr ⟨by omega, by omega, h3⟩
theorem pickG_bd {p s lo hi r : Int} (hr : 0 ≤ r) : pickG p s lo hi r = -1 ∨ (r ≤ pickG p s lo hi r ∧ pickG p s lo hi r ≤ 2000 ∧ inB (p + s * pickG p s lo hi r) lo hi = true) := by
  unfold pickG
  rcases pickN_bd (p := p) (s := s) (lo := lo) (hi := hi) (2001 - r).toNat r hr with h | ⟨h1, h2, h3⟩
  · exact .inl h
  · exact .inr ⟨h1, by omega, h3⟩
theorem pickF_eq {p s lo hi r : Int} (hc : convB s lo hi = true) (hp : inB p (-10000) 10000 = true) (h0 : 0 ≤ r) (h1 : r ≤ 3000) : pickF p s lo hi r = pickG p s lo hi r := by
  unfold pickF pickB
  rw [hc, hp]
  by_cases h : r ≤ 2000
  · rw [inB_t.2 ⟨h0, h⟩]; rfl
  · rw [inB_f.2 (.inr (by omega))]
    show (-1 : Int) = _
    unfold pickG
    rw [show (2001 - r).toNat = 0 by omega]
    rfl

/-- When the robot is ready, behind j items. -/
def planR (zs : List Int) (s lo hi : Int) : Nat → Int
  | 0 => 0
  | j + 1 => if 0 ≤ pickG (pX zs j) s lo hi (planR zs s lo hi j) then pickG (pX zs j) s lo hi (planR zs s lo hi j) + pY zs j else planR zs s lo hi j
def planT (zs : List Int) (s lo hi : Int) (j : Nat) : Int := pickG (pX zs j) s lo hi (planR zs s lo hi j)
def planL (zs : List Int) (s lo hi : Int) : Nat → List Int
  | 0 => []
  | j + 1 => planL zs s lo hi j ++ [planT zs s lo hi j]
def planB (zs : List Int) (s lo hi : Int) (n : Nat) : Bool := itemsB n zs && convB s lo hi
def planF (zs : List Int) (s lo hi : Int) (n : Nat) : List Int := if planB zs s lo hi n = true then planL zs s lo hi n else []
theorem planL_len (zs : List Int) (s lo hi : Int) : ∀ j, (planL zs s lo hi j).length = j
  | 0 => rfl
  | j + 1 => by rw [planL, List.length_append, planL_len zs s lo hi j]; rfl
theorem planL_at (zs : List Int) (s lo hi : Int) : ∀ {n j : Nat}, j < n → (planL zs s lo hi n).getD j 0 = planT zs s lo hi j
  | n + 1, j, h => by
    rw [planL, List.getD_eq_getElem?_getD, List.getElem?_append, planL_len]
    by_cases hj : j < n
    · rw [if_pos hj, ← List.getD_eq_getElem?_getD, planL_at zs s lo hi hj]
    · obtain rfl : j = n := by omega
      simp
theorem planF_len (zs : List Int) (s lo hi : Int) (n : Nat) : (planF zs s lo hi n).length ≤ 8 := by
  unfold planF
  split
  · rename_i h
    unfold planB at h
    rw [Bool.and_eq_true] at h
    have := (itemsB_t.1 h.1).1
    rw [planL_len]; omega
  · simp
theorem planR_bd {zs : List Int} {s lo hi : Int} : ∀ {n : Nat}, (∀ j, j < n → okI zs j = true) → 0 ≤ planR zs s lo hi n ∧ planR zs s lo hi n ≤ 2100
  | 0, _ => by simp [planR]
  | n + 1, h => by
    have ih := planR_bd (s := s) (lo := lo) (hi := hi) (fun j hj => h j (Nat.lt_succ_of_lt hj))
    have hb := okI_t.1 (h n (by omega))
    have hg := pickG_bd (p := pX zs n) (s := s) (lo := lo) (hi := hi) ih.1
    rw [planR]
    split <;> omega
theorem planT_bd {zs : List Int} {s lo hi : Int} {n j : Nat} (h : ∀ j, j < n → okI zs j = true) (hj : j < n) : -1 ≤ planT zs s lo hi j ∧ planT zs s lo hi j ≤ 2000 := by
  have h1 := planR_bd (zs := zs) (s := s) (lo := lo) (hi := hi) (n := j) (fun i hi => h i (by omega))
  have := pickG_bd (p := pX zs j) (s := s) (lo := lo) (hi := hi) h1.1
  unfold planT
  omega

set_option maxHeartbeats 4000000 in
theorem plan_any (a : Option Addr) (n c : Nat) (zs : List Int) (s lo hi : Int) (w : World) (hz : zs.length = n * 2) (hi' : Ints w a zs) (hn : n ≤ 1000000000) :
    Calls Try.prog 25 #[.slice a n c, .int .i64 s, .int .i64 lo, .int .i64 hi] w (Made w (planF zs s lo hi n)) := by
  have hv := fun W h => valid_any a n c zs W hz h hn
  cases hp : itemsB n zs <;> rw [hp] at hv
  · have HF : Hid (planF zs s lo hi n = []) := by show planF zs s lo hi n = []; rw [planF, planB, hp]; rfl
    go_enter Try.func25, Try.ntmps25
    go_wp2_with (first | (go_at_call 17; refine (hv _ (by first | exact hi' | exact hi'.alloc _)).mono ?_; rintro e w1 ⟨rfl, os, d, rfl⟩) | (go_at_call 17; refine (hv _ (by first | exact hi' | exact hi'.alloc _)).mono ?_; rintro e w1 ⟨rfl, rfl⟩))
    go_ret
    rw [HF.out]
    first
      | exact made (Own.nil _ _) (by repeat (first | with_reducible exact Below.refl _ _ | with_reducible apply below_alloc | with_reducible apply below_drw | with_reducible apply below_drew | with_reducible apply below_drewN | with_reducible apply below_plus | with_reducible apply below_set | (simp; done)))
      | exact made (Own.made _ _ (Nat.le_refl _)) (by repeat (first | with_reducible exact Below.refl _ _ | with_reducible apply below_alloc | with_reducible apply below_drw | with_reducible apply below_drew | with_reducible apply below_drewN | with_reducible apply below_plus | with_reducible apply below_set | (simp; done)))
  · cases hcv : convB s lo hi
    · have HF : Hid (planF zs s lo hi n = []) := by show planF zs s lo hi n = []; rw [planF, planB, hp, hcv]; rfl
      go_enter Try.func25, Try.ntmps25
      go_wp2_with (first | (go_at_call 17; refine (hv _ (by first | exact hi' | exact hi'.alloc _)).mono ?_; rintro e w1 ⟨rfl, os, d, rfl⟩) | (go_at_call 17; refine (hv _ (by first | exact hi' | exact hi'.alloc _)).mono ?_; rintro e w1 ⟨rfl, rfl⟩) | (go_at_call 36; refine (conveyorFits_any _ _ _ _).mono ?_; rintro e w' ⟨rfl, rfl⟩))
      go_ret
      rw [HF.out]
      first
        | exact made (Own.nil _ _) (by repeat (first | with_reducible exact Below.refl _ _ | with_reducible apply below_alloc | with_reducible apply below_drw | with_reducible apply below_drew | with_reducible apply below_drewN | with_reducible apply below_plus | with_reducible apply below_set | (simp; done)))
        | exact made (Own.made _ _ (Nat.le_refl _)) (by repeat (first | with_reducible exact Below.refl _ _ | with_reducible apply below_alloc | with_reducible apply below_drw | with_reducible apply below_drew | with_reducible apply below_drewN | with_reducible apply below_plus | with_reducible apply below_set | (simp; done)))
    · have HF : Hid (planF zs s lo hi n = planL zs s lo hi n) := by show planF zs s lo hi n = _; rw [planF, planB, hp, hcv]; rfl
      have HP := Lib.hid (itemsB_t.1 hp)
      have HC := Lib.hid hcv
      have HI := Lib.hid hi'
      have HZ := Lib.hid hz
      have hn8 := HP.out.1
      obtain ⟨B, hB⟩ : ∃ B, B = w.heap.size := ⟨_, rfl⟩
      have HB := Lib.hid hB
      clear hB
      go_enter Try.func25, Try.ntmps25
      go_wp2_with (first | (go_at_call 17; refine (hv _ (by first | exact hi' | exact hi'.alloc _)).mono ?_; rintro e w1 ⟨rfl, os, d, rfl⟩) | (go_at_call 17; refine (hv _ (by first | exact hi' | exact hi'.alloc _)).mono ?_; rintro e w1 ⟨rfl, rfl⟩) | (go_at_call 36; refine (conveyorFits_any _ _ _ _).mono ?_; rintro e w' ⟨rfl, rfl⟩))
      clear hi' hz hv hp hcv
      go_loopw [10, 9, 26] (fun rv v' iv wr => ∃ j : Nat, j ≤ n ∧ iv = .int .i64 j ∧ rv = .int .i64 (planR zs s lo hi j) ∧ Hid (Own wr B v' (planL zs s lo hi j)) ∧ Hid (Below B w wr)) (fun _ _ iv _ => n - (intOf iv).toNat)
      case atStart =>
        refine ⟨0, Nat.zero_le _, rfl, rfl, ?_, ?_⟩
        · show Own _ _ _ _
          rw [HB.out]
          first | exact Own.nil _ _ | exact (Own.made _ _ (Nat.le_refl _)).below (below_plus (Below.refl _ _) _ _) | exact Own.made _ _ (Nat.le_refl _)
        · show Below _ _ _
          rw [HB.out]
          repeat (first | with_reducible exact Below.refl _ _ | with_reducible apply below_alloc | with_reducible apply below_drw | with_reducible apply below_drew | with_reducible apply below_drewN | with_reducible apply below_plus | with_reducible apply below_set | (simp; done))
      case round =>
        obtain ⟨j, hj, rfl, rfl, HO, HW⟩ := hrel
        have hBw : B ≤ wr.heap.size := by rw [HB.out]; exact HW.out.size
        by_cases hlt : j < n
        · have hlt' : (j : Int) < (n : Int) := by omega
          have hIw : Ints wr a zs := HI.out.below (by have := HW.out; rwa [HB.out] at this)
          obtain ⟨blk, off, rfl, hb, c0, c1⟩ := hIw.pair HZ.out hlt
          clear hIw
          have hok := HP.out.2 j hlt
          obtain ⟨⟨x1, x2⟩, y1, y2⟩ := okI_t.1 hok
          have hR := planR_bd (zs := zs) (s := s) (lo := lo) (hi := hi) (n := j) (fun i hi => HP.out.2 i (by omega))
          obtain ⟨r1, r2⟩ := hR
          have htb := pickG_bd (p := pX zs j) (s := s) (lo := lo) (hi := hi) (r := planR zs s lo hi j) r1
          have ht1 : -1 ≤ pickG (pX zs j) s lo hi (planR zs s lo hi j) ∧ pickG (pX zs j) s lo hi (planR zs s lo hi j) ≤ 2000 := by omega
          clear htb
          have hs := (convB_t.1 HC.out).1
          have hc := fun W => pickTime_any (pX zs j) s lo hi (planR zs s lo hi j) W
          rw [pickF_eq HC.out (inB_t.2 ⟨x1, x2⟩) r1 (by omega)] at hc
          have HL : Hid (planL zs s lo hi (j + 1) = planL zs s lo hi j ++ [pickG (pX zs j) s lo hi (planR zs s lo hi j)]) := rfl
          have HR : Hid (planR zs s lo hi (j + 1) = if 0 ≤ pickG (pX zs j) s lo hi (planR zs s lo hi j) then pickG (pX zs j) s lo hi (planR zs s lo hi j) + pY zs j else planR zs s lo hi j) := rfl
          generalize pickG (pX zs j) s lo hi (planR zs s lo hi j) = t at hc HL HR ht1
          obtain ⟨t1, t2⟩ := ht1
          generalize planR zs s lo hi j = r at hc HR r1 r2 ⊢
          generalize pX zs j = x at c0 x1 x2 hc
          generalize pY zs j = y at c1 y1 y2 HR
          clear hok
          have wa : IntKind.i64.wrap (t + y) = t + y := IntWalk.i64_in _ (by omega)
          by_cases ht : 0 ≤ t
          all_goals
            have HR2 := HR
            first | rw [if_pos ht] at HR2 | rw [if_neg ht] at HR2
            go_wp2_with (first | (go_at_call 13; refine (hc _).mono ?_; rintro e w' ⟨rfl, rfl⟩) | (at_builtin; (refine wpList_app rfl _ _ rfl B _ _ rfl ((HO.out.alloc _).alloc _) ⟨_, 0, none⟩ _ rfl (cell_new' (by simp) rfl) (by rw [planL_len]; omega) (by first | (simp; done) | (simp; omega)) ?_); intro v1 w1 hown hgrow) | (at_builtin; refine wpList_app rfl _ _ rfl B _ _ rfl (HO.out.alloc _) ⟨_, 0, none⟩ _ rfl (cell_new' (by simp) rfl) (by rw [planL_len]; omega) (by first | (simp; done) | (simp; omega)) ?_; intro v1 w1 hown hgrow))
            have HO1 := Lib.hid hown
            have HG1 := Lib.hid hgrow
            clear hown hgrow
            go_wp2
            go_roundw
            case rel =>
              refine ⟨j + 1, by omega, by go_num, by rw [HR2.out], ?_, ?_⟩
              · show Own _ _ _ _
                rw [HL.out]
                exact HO1.out
              · show Below _ _ _
                first
                  | exact ((HO.out.alloc _).alloc _).step HG1.out (by first | (simp; done) | (simp; omega)) ((HW.out.alloc hBw _).alloc (by first | (simp; done) | (simp; omega)) _)
                  | exact (HO.out.alloc _).step HG1.out (by first | (simp; done) | (simp; omega)) (HW.out.alloc hBw _)
            case measure => simp [intOf]; omega
        · have hlt' : ¬ (j : Int) < (n : Int) := by omega
          obtain rfl : j = n := by omega
          go_wp2
          go_ret
          rw [HB.out] at HO HW
          rw [HF.out]
          exact made HO.out HW.out

set_option maxHeartbeats 4000000 in
theorem sPlan_any (a : Option Addr) (n c : Nat) (zs : List Int) (s lo hi : Int) (w : World) (hz : zs.length = n * 2) (hi' : Ints w a zs) (hn : n ≤ 1000000000) :
    Calls Try.prog 27 #[.slice a n c, .int .i64 s, .int .i64 lo, .int .i64 hi] w (Made w (planF zs s lo hi n)) := by
  have hv := fun W h => sValid_any a n c zs W hz h hn
  cases hp : itemsB n zs <;> rw [hp] at hv
  · have HF : Hid (planF zs s lo hi n = []) := by show planF zs s lo hi n = []; rw [planF, planB, hp]; rfl
    go_enter Try.func27, Try.ntmps27
    go_wp2_with (first | (go_at_call 15; refine (hv _ (by first | exact hi' | exact hi'.alloc _)).mono ?_; rintro e w1 ⟨rfl, os, d, rfl⟩) | (go_at_call 15; refine (hv _ (by first | exact hi' | exact hi'.alloc _)).mono ?_; rintro e w1 ⟨rfl, rfl⟩))
    go_ret
    rw [HF.out]
    first
      | exact made (Own.nil _ _) (by repeat (first | with_reducible exact Below.refl _ _ | with_reducible apply below_alloc | with_reducible apply below_drw | with_reducible apply below_drew | with_reducible apply below_drewN | with_reducible apply below_plus | with_reducible apply below_set | (simp; done)))
      | exact made (Own.made _ _ (Nat.le_refl _)) (by repeat (first | with_reducible exact Below.refl _ _ | with_reducible apply below_alloc | with_reducible apply below_drw | with_reducible apply below_drew | with_reducible apply below_drewN | with_reducible apply below_plus | with_reducible apply below_set | (simp; done)))
  · cases hcv : convB s lo hi
    · have HF : Hid (planF zs s lo hi n = []) := by show planF zs s lo hi n = []; rw [planF, planB, hp, hcv]; rfl
      go_enter Try.func27, Try.ntmps27
      go_wp2_with (first | (go_at_call 15; refine (hv _ (by first | exact hi' | exact hi'.alloc _)).mono ?_; rintro e w1 ⟨rfl, os, d, rfl⟩) | (go_at_call 15; refine (hv _ (by first | exact hi' | exact hi'.alloc _)).mono ?_; rintro e w1 ⟨rfl, rfl⟩) | (go_at_call 33; refine (l13Ok_any _ _ _ _).mono ?_; rintro e w' ⟨rfl, rfl⟩))
      go_ret
      rw [HF.out]
      first
        | exact made (Own.nil _ _) (by repeat (first | with_reducible exact Below.refl _ _ | with_reducible apply below_alloc | with_reducible apply below_drw | with_reducible apply below_drew | with_reducible apply below_drewN | with_reducible apply below_plus | with_reducible apply below_set | (simp; done)))
        | exact made (Own.made _ _ (Nat.le_refl _)) (by repeat (first | with_reducible exact Below.refl _ _ | with_reducible apply below_alloc | with_reducible apply below_drw | with_reducible apply below_drew | with_reducible apply below_drewN | with_reducible apply below_plus | with_reducible apply below_set | (simp; done)))
    · have HF : Hid (planF zs s lo hi n = planL zs s lo hi n) := by show planF zs s lo hi n = _; rw [planF, planB, hp, hcv]; rfl
      have HP := Lib.hid (itemsB_t.1 hp)
      have HC := Lib.hid hcv
      have HI := Lib.hid hi'
      have HZ := Lib.hid hz
      have hn8 := HP.out.1
      obtain ⟨B, hB⟩ : ∃ B, B = w.heap.size := ⟨_, rfl⟩
      have HB := Lib.hid hB
      clear hB
      go_enter Try.func27, Try.ntmps27
      go_wp2_with (first | (go_at_call 15; refine (hv _ (by first | exact hi' | exact hi'.alloc _)).mono ?_; rintro e w1 ⟨rfl, os, d, rfl⟩) | (go_at_call 15; refine (hv _ (by first | exact hi' | exact hi'.alloc _)).mono ?_; rintro e w1 ⟨rfl, rfl⟩) | (go_at_call 33; refine (l13Ok_any _ _ _ _).mono ?_; rintro e w' ⟨rfl, rfl⟩))
      clear hi' hz hv hp hcv
      go_loopw [10, 9, 11] (fun rv v' iv wr => ∃ j : Nat, j ≤ n ∧ iv = .int .i64 j ∧ rv = .int .i64 (planR zs s lo hi j) ∧ Hid (Own wr B v' (planL zs s lo hi j)) ∧ Hid (Below B w wr)) (fun _ _ iv _ => n - (intOf iv).toNat)
      case atStart =>
        refine ⟨0, Nat.zero_le _, rfl, rfl, ?_, ?_⟩
        · show Own _ _ _ _
          rw [HB.out]
          first | exact Own.nil _ _ | exact (Own.made _ _ (Nat.le_refl _)).below (below_plus (Below.refl _ _) _ _) | exact Own.made _ _ (Nat.le_refl _)
        · show Below _ _ _
          rw [HB.out]
          repeat (first | with_reducible exact Below.refl _ _ | with_reducible apply below_alloc | with_reducible apply below_drw | with_reducible apply below_drew | with_reducible apply below_drewN | with_reducible apply below_plus | with_reducible apply below_set | (simp; done))
      case round =>
        obtain ⟨j, hj, rfl, rfl, HO, HW⟩ := hrel
        have hBw : B ≤ wr.heap.size := by rw [HB.out]; exact HW.out.size
        by_cases hlt : j < n
        · have hlt' : (j : Int) < (n : Int) := by omega
          have hIw : Ints wr a zs := HI.out.below (by have := HW.out; rwa [HB.out] at this)
          obtain ⟨blk, off, rfl, hb, c0, c1⟩ := hIw.pair HZ.out hlt
          clear hIw
          have hok := HP.out.2 j hlt
          obtain ⟨⟨x1, x2⟩, y1, y2⟩ := okI_t.1 hok
          have hR := planR_bd (zs := zs) (s := s) (lo := lo) (hi := hi) (n := j) (fun i hi => HP.out.2 i (by omega))
          obtain ⟨r1, r2⟩ := hR
          have htb := pickG_bd (p := pX zs j) (s := s) (lo := lo) (hi := hi) (r := planR zs s lo hi j) r1
          have ht1 : -1 ≤ pickG (pX zs j) s lo hi (planR zs s lo hi j) ∧ pickG (pX zs j) s lo hi (planR zs s lo hi j) ≤ 2000 := by omega
          clear htb
          have hs := (convB_t.1 HC.out).1
          have hc := fun W => l13Pick_any (pX zs j) s lo hi (planR zs s lo hi j) W ⟨hs, ⟨x1, x2⟩, r1, by omega⟩
          have HL : Hid (planL zs s lo hi (j + 1) = planL zs s lo hi j ++ [pickG (pX zs j) s lo hi (planR zs s lo hi j)]) := rfl
          have HR : Hid (planR zs s lo hi (j + 1) = if 0 ≤ pickG (pX zs j) s lo hi (planR zs s lo hi j) then pickG (pX zs j) s lo hi (planR zs s lo hi j) + pY zs j else planR zs s lo hi j) := rfl
          generalize pickG (pX zs j) s lo hi (planR zs s lo hi j) = t at hc HL HR ht1
          obtain ⟨t1, t2⟩ := ht1
          generalize planR zs s lo hi j = r at hc HR r1 r2 ⊢
          generalize pX zs j = x at c0 x1 x2 hc
          generalize pY zs j = y at c1 y1 y2 HR
          clear hok
          have wa : IntKind.i64.wrap (t + y) = t + y := IntWalk.i64_in _ (by omega)
          by_cases ht : 0 ≤ t
          all_goals
            have HR2 := HR
            first | rw [if_pos ht] at HR2 | rw [if_neg ht] at HR2
            go_wp2_with (first | (go_at_call 35; refine (hc _).mono ?_; rintro e w' ⟨rfl, rfl⟩) | (at_builtin; (refine wpList_app rfl _ _ rfl B _ _ rfl ((HO.out.alloc _).alloc _) ⟨_, 0, none⟩ _ rfl (cell_new' (by simp) rfl) (by rw [planL_len]; omega) (by first | (simp; done) | (simp; omega)) ?_); intro v1 w1 hown hgrow) | (at_builtin; refine wpList_app rfl _ _ rfl B _ _ rfl (HO.out.alloc _) ⟨_, 0, none⟩ _ rfl (cell_new' (by simp) rfl) (by rw [planL_len]; omega) (by first | (simp; done) | (simp; omega)) ?_; intro v1 w1 hown hgrow))
            have HO1 := Lib.hid hown
            have HG1 := Lib.hid hgrow
            clear hown hgrow
            go_wp2
            go_roundw
            case rel =>
              refine ⟨j + 1, by omega, by go_num, by rw [HR2.out], ?_, ?_⟩
              · show Own _ _ _ _
                rw [HL.out]
                exact HO1.out
              · show Below _ _ _
                first
                  | exact ((HO.out.alloc _).alloc _).step HG1.out (by first | (simp; done) | (simp; omega)) ((HW.out.alloc hBw _).alloc (by first | (simp; done) | (simp; omega)) _)
                  | exact (HO.out.alloc _).step HG1.out (by first | (simp; done) | (simp; omega)) (HW.out.alloc hBw _)
            case measure => simp [intOf]; omega
        · have hlt' : ¬ (j : Int) < (n : Int) := by omega
          obtain rfl : j = n := by omega
          go_wp2
          go_ret
          rw [HB.out] at HO HW
          rw [HF.out]
          exact made HO.out HW.out

/-- How many of the first k numbers are negative. -/
def negC (ts : List Int) : Nat → Nat
  | 0 => 0
  | k + 1 => negC ts k + (if ts.getD k 0 < 0 then 1 else 0)
theorem negC_le (ts : List Int) : ∀ k, negC ts k ≤ k
  | 0 => Nat.le_refl _
  | k + 1 => by have := negC_le ts k; rw [negC]; split <;> omega
def missF (zs : List Int) (s lo hi : Int) (n : Nat) : Int := if planB zs s lo hi n = true then (negC (planF zs s lo hi n) n : Nat) else -1

set_option maxHeartbeats 4000000 in
theorem miss_any (a : Option Addr) (n c : Nat) (zs : List Int) (s lo hi : Int) (w : World) (hz : zs.length = n * 2) (hi' : Ints w a zs) (hn : n ≤ 1000000000) :
    Calls Try.prog 23 #[.slice a n c, .int .i64 s, .int .i64 lo, .int .i64 hi] w fun e w' => e = .returned (.int .i64 (missF zs s lo hi n)) ∧ Up w w' := by
  have hv := fun W h => valid_any a n c zs W hz h hn
  have hpl := fun W h => plan_any a n c zs s lo hi W hz h hn
  cases hp : itemsB n zs <;> rw [hp] at hv
  · have HF : Hid (missF zs s lo hi n = -1) := by show missF zs s lo hi n = -1; rw [missF, planB, hp]; rfl
    go_enter Try.func23, Try.ntmps23
    go_wp2_with (first | (go_at_call 17; refine (hv _ hi').mono ?_; rintro e w1 ⟨rfl, os, d, rfl⟩) | (go_at_call 17; refine (hv _ hi').mono ?_; rintro e w1 ⟨rfl, rfl⟩))
    go_ret
    exact ⟨by rw [HF.out]; rfl, up_of_below (by repeat (first | with_reducible exact Below.refl _ _ | with_reducible apply below_alloc | with_reducible apply below_drw | with_reducible apply below_drew | with_reducible apply below_drewN | with_reducible apply below_plus | with_reducible apply below_set | (simp; done)))⟩
  · cases hcv : convB s lo hi
    · have HF : Hid (missF zs s lo hi n = -1) := by show missF zs s lo hi n = -1; rw [missF, planB, hp, hcv]; rfl
      go_enter Try.func23, Try.ntmps23
      go_wp2_with (first | (go_at_call 17; refine (hv _ hi').mono ?_; rintro e w1 ⟨rfl, os, d, rfl⟩) | (go_at_call 17; refine (hv _ hi').mono ?_; rintro e w1 ⟨rfl, rfl⟩) | (go_at_call 36; refine (conveyorFits_any _ _ _ _).mono ?_; rintro e w' ⟨rfl, rfl⟩))
      go_ret
      exact ⟨by rw [HF.out]; rfl, up_of_below (by repeat (first | with_reducible exact Below.refl _ _ | with_reducible apply below_alloc | with_reducible apply below_drw | with_reducible apply below_drew | with_reducible apply below_drewN | with_reducible apply below_plus | with_reducible apply below_set | (simp; done)))⟩
    · have hB : planB zs s lo hi n = true := by rw [planB, hp, hcv]; rfl
      have hlen : (planF zs s lo hi n).length = n := by rw [planF, if_pos hB, planL_len]
      have HF : Hid (missF zs s lo hi n = (negC (planF zs s lo hi n) n : Nat)) := by show missF zs s lo hi n = _; rw [missF, if_pos hB]
      have hn8 := (itemsB_t.1 hp).1
      generalize planF zs s lo hi n = ts at hlen HF hpl
      have HL := Lib.hid hlen
      go_enter Try.func23, Try.ntmps23
      go_wp2_with (first | (go_at_call 17; refine (hv _ hi').mono ?_; rintro e w1 ⟨rfl, os, d, rfl⟩) | (go_at_call 17; refine (hv _ hi').mono ?_; rintro e w1 ⟨rfl, rfl⟩) | (go_at_call 36; refine (conveyorFits_any _ _ _ _).mono ?_; rintro e w' ⟨rfl, rfl⟩))
      refine (hpl _ (by first | exact hi' | exact hi'.plus _ _)).mono ?_
      rintro e w2 ⟨a2, n2, rfl, hO, hBl⟩
      have HO := Lib.hid hO.ints.2
      have HW := Lib.hid (show Below w.heap.size w w2 from by first | exact hBl | exact (below_plus (Below.refl _ _) _ _).trans (hBl.mono (below_plus (Below.refl _ _) _ _).size))
      rw [hlen]
      clear hO hBl hlen hpl hv hp hcv hi' hB
      go_wp2
      go_loopw [9, 28] (fun mv iv wr => ∃ j : Nat, j ≤ n ∧ iv = .int .i64 j ∧ mv = .int .i64 (negC ts j : Nat) ∧ wr = w2) (fun _ iv _ => n - (intOf iv).toNat)
      case atStart => exact ⟨0, Nat.zero_le _, rfl, rfl, rfl⟩
      case round =>
        obtain ⟨j, hj, rfl, rfl, rfl⟩ := hrel
        by_cases hlt : j < n
        · have hlt' : (j : Int) < (n : Int) := by omega
          rcases HO.out with h0 | ⟨blk, off, rfl, hc⟩
          · exfalso; have := HL.out; rw [h0] at this; simp at this; omega
          have c0 := hc j (by rw [HL.out]; exact hlt)
          clear hc
          have HN : Hid (negC ts (j + 1) = negC ts j + (if ts.getD j 0 < 0 then 1 else 0)) := rfl
          have hle := negC_le ts j
          generalize ts.getD j 0 = t at c0 HN
          generalize negC ts j = k at HN hle ⊢
          have wk : IntKind.i64.wrap ((k : Int) + 1) = k + 1 := IntWalk.i64_in _ (by omega)
          by_cases ht : t < 0
          · have HN2 := HN
            rw [if_pos ht] at HN2
            go_wp2
            go_roundw
            case rel => exact ⟨j + 1, by omega, by go_num, by rw [HN2.out]; rfl, by first | rfl | trivial⟩
            case measure => simp [intOf]; omega
          · have HN2 := HN
            rw [if_neg ht] at HN2
            go_wp2
            go_roundw
            case rel => exact ⟨j + 1, by omega, by go_num, by rw [HN2.out]; rfl, by first | rfl | trivial⟩
            case measure => simp [intOf]; omega
        · have hlt' : ¬ (j : Int) < (n : Int) := by omega
          obtain rfl : j = n := by omega
          go_wp2
          go_ret
          exact ⟨by rw [HF.out]; rfl, up_of_below HW.out⟩

set_option maxHeartbeats 4000000 in
theorem sMiss_any (a : Option Addr) (n c : Nat) (zs : List Int) (s lo hi : Int) (w : World) (hz : zs.length = n * 2) (hi' : Ints w a zs) (hn : n ≤ 1000000000) :
    Calls Try.prog 22 #[.slice a n c, .int .i64 s, .int .i64 lo, .int .i64 hi] w fun e w' => e = .returned (.int .i64 (missF zs s lo hi n)) ∧ Up w w' := by
  have hv := fun W h => sValid_any a n c zs W hz h hn
  have hpl := fun W h => sPlan_any a n c zs s lo hi W hz h hn
  cases hp : itemsB n zs <;> rw [hp] at hv
  · have HF : Hid (missF zs s lo hi n = -1) := by show missF zs s lo hi n = -1; rw [missF, planB, hp]; rfl
    go_enter Try.func22, Try.ntmps22
    go_wp2_with (first | (go_at_call 15; refine (hv _ hi').mono ?_; rintro e w1 ⟨rfl, os, d, rfl⟩) | (go_at_call 15; refine (hv _ hi').mono ?_; rintro e w1 ⟨rfl, rfl⟩))
    go_ret
    exact ⟨by rw [HF.out]; rfl, up_of_below (by repeat (first | with_reducible exact Below.refl _ _ | with_reducible apply below_alloc | with_reducible apply below_drw | with_reducible apply below_drew | with_reducible apply below_drewN | with_reducible apply below_plus | with_reducible apply below_set | (simp; done)))⟩
  · cases hcv : convB s lo hi
    · have HF : Hid (missF zs s lo hi n = -1) := by show missF zs s lo hi n = -1; rw [missF, planB, hp, hcv]; rfl
      go_enter Try.func22, Try.ntmps22
      go_wp2_with (first | (go_at_call 15; refine (hv _ hi').mono ?_; rintro e w1 ⟨rfl, os, d, rfl⟩) | (go_at_call 15; refine (hv _ hi').mono ?_; rintro e w1 ⟨rfl, rfl⟩) | (go_at_call 33; refine (l13Ok_any _ _ _ _).mono ?_; rintro e w' ⟨rfl, rfl⟩))
      go_ret
      exact ⟨by rw [HF.out]; rfl, up_of_below (by repeat (first | with_reducible exact Below.refl _ _ | with_reducible apply below_alloc | with_reducible apply below_drw | with_reducible apply below_drew | with_reducible apply below_drewN | with_reducible apply below_plus | with_reducible apply below_set | (simp; done)))⟩
    · have hB : planB zs s lo hi n = true := by rw [planB, hp, hcv]; rfl
      have hlen : (planF zs s lo hi n).length = n := by rw [planF, if_pos hB, planL_len]
      have HF : Hid (missF zs s lo hi n = (negC (planF zs s lo hi n) n : Nat)) := by show missF zs s lo hi n = _; rw [missF, if_pos hB]
      have hn8 := (itemsB_t.1 hp).1
      generalize planF zs s lo hi n = ts at hlen HF hpl
      have HL := Lib.hid hlen
      go_enter Try.func22, Try.ntmps22
      go_wp2_with (first | (go_at_call 15; refine (hv _ hi').mono ?_; rintro e w1 ⟨rfl, os, d, rfl⟩) | (go_at_call 15; refine (hv _ hi').mono ?_; rintro e w1 ⟨rfl, rfl⟩) | (go_at_call 33; refine (l13Ok_any _ _ _ _).mono ?_; rintro e w' ⟨rfl, rfl⟩))
      refine (hpl _ (by first | exact hi' | exact hi'.plus _ _)).mono ?_
      rintro e w2 ⟨a2, n2, rfl, hO, hBl⟩
      have HO := Lib.hid hO.ints.2
      have HW := Lib.hid (show Below w.heap.size w w2 from by first | exact hBl | exact (below_plus (Below.refl _ _) _ _).trans (hBl.mono (below_plus (Below.refl _ _) _ _).size))
      rw [hlen]
      clear hO hBl hlen hpl hv hp hcv hi' hB
      go_wp2
      go_loopw [9, 11] (fun mv iv wr => ∃ j : Nat, j ≤ n ∧ iv = .int .i64 j ∧ mv = .int .i64 (negC ts j : Nat) ∧ wr = w2) (fun _ iv _ => n - (intOf iv).toNat)
      case atStart => exact ⟨0, Nat.zero_le _, rfl, rfl, rfl⟩
      case round =>
        obtain ⟨j, hj, rfl, rfl, rfl⟩ := hrel
        by_cases hlt : j < n
        · have hlt' : (j : Int) < (n : Int) := by omega
          rcases HO.out with h0 | ⟨blk, off, rfl, hc⟩
          · exfalso; have := HL.out; rw [h0] at this; simp at this; omega
          have c0 := hc j (by rw [HL.out]; exact hlt)
          clear hc
          have HN : Hid (negC ts (j + 1) = negC ts j + (if ts.getD j 0 < 0 then 1 else 0)) := rfl
          have hle := negC_le ts j
          generalize ts.getD j 0 = t at c0 HN
          generalize negC ts j = k at HN hle ⊢
          have wk : IntKind.i64.wrap ((k : Int) + 1) = k + 1 := IntWalk.i64_in _ (by omega)
          by_cases ht : t < 0
          · have HN2 := HN
            rw [if_pos ht] at HN2
            go_wp2
            go_roundw
            case rel => exact ⟨j + 1, by omega, by go_num, by rw [HN2.out]; rfl, by first | rfl | trivial⟩
            case measure => simp [intOf]; omega
          · have HN2 := HN
            rw [if_neg ht] at HN2
            go_wp2
            go_roundw
            case rel => exact ⟨j + 1, by omega, by go_num, by rw [HN2.out]; rfl, by first | rfl | trivial⟩
            case measure => simp [intOf]; omega
        · have hlt' : ¬ (j : Int) < (n : Int) := by omega
          obtain rfl : j = n := by omega
          go_wp2
          go_ret
          exact ⟨by rw [HF.out]; rfl, up_of_below HW.out⟩

end Go.Proofs.Ytcoigofgifbmpaa
