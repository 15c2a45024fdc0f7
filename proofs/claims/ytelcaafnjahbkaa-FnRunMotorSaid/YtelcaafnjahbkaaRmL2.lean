/-
  The walk of the law on runs of motors. No condition.
-/
import Derived.Test.YtelcaafnjahbkaaRmL1
import Derived.Test.YtelcaafnjahbkaaMoDraw4
namespace Go.Proofs.Ytelcaafnjahbkaa
open Go.RowKit

/-- A motor at rest at its target stays there. -/
theorem rest_run {t k d f : Int} (h : aimB t k d = true) (hf : 0 ≤ f ∧ f ≤ 100) : runF t 0 t k d f 3 = [t, t, t] := by
  have ht := aimB_t.1 h
  have hm : motB t 0 = true := motB_t.2 ⟨ht.1, by omega, by omega⟩
  have hB : runB t 0 t k d f 3 = true := by rw [runB, hm, h, inB_t.2 hf]; rfl
  have ha : aimF t 0 t k d = 0 := by
    rw [aim_valid hm h, aimG]
    simp [clampF]
    omega
  have hs := run_step 0 hm (by omega) hf
  have e1 : stepA t 0 0 f = t := by
    rw [hs.2.1]
    unfold stA spdF clampF
    omega
  have e2 : stepS t 0 0 f = 0 := by
    rw [hs.2.2.1]
    unfold stS stA spdF clampF
    split <;> omega
  have hA : ∀ j, runA t k d f j (t, 0) = (t, 0) := by
    intro j
    induction j with
    | zero => rfl
    | succ j ih => rw [runA_succ ih, ha, e1, e2]
  rw [runF, if_pos hB]
  show runL t k d f (t, 0) 3 = _
  simp [runL, hA]

theorem run_empty {x y t k d f m : Int} (h : runF x y t k d f m ≠ []) : runB x y t k d f m = true ∧ 1 ≤ m ∧ m ≤ 400 := by
  cases hB : runB x y t k d f m with
  | false => exact absurd (by rw [runF, hB]; rfl) h
  | true =>
    have hm := hB
    simp only [runB, Bool.and_eq_true] at hm
    have h4 := inB_t.1 hm.2.2.2
    refine ⟨rfl, ?_, h4.2⟩
    rcases Int.lt_or_le m 1 with h1 | h1
    · obtain rfl : m = 0 := by omega
      exact absurd (by rw [runF, hB]; rfl) h
    · exact h1

theorem lit3 {W : World} {B : Nat} {t : Int} (T : TypeId) (hB : B = W.heap.size) : Ints (W.alloc (.cells #[.int .i64 t, .int .i64 t, .int .i64 t] T)) (some ⟨B, 0, none⟩) [t, t, t] := by
  subst hB
  refine .inr ⟨_, 0, rfl, fun i hi => ?_⟩
  have h := World.cell?_alloc_new W #[.int .i64 t, .int .i64 t, .int .i64 t] T i
  rw [Nat.zero_add, h]
  match i, hi with
  | 0, _ => rfl
  | 1, _ => rfl
  | 2, _ => rfl
  | i + 3, hi => simp at hi; omega

set_option maxHeartbeats 4000000 in
theorem lawRunMotor_any (a : Option Addr) (n c : Nat) (w : World) (hb : Bytes w w.heap.size a n) (hnc : n ≤ c) (hcm : c ≤ maxLen) :
    Calls Try.prog 13 #[.slice a n c] w fun e w' => e = .returned (.bool true) ∧ Up w w' := by
  have hmm : c ≤ 9223372036854775807 := by unfold maxLen at hcm; omega
  by_cases hn : n ≤ 1048576
  · go_enter Try.func13, Try.ntmps13
    go_wp2_with (go_at_call 35; refine (drawRunMotor_any _ _ _ _ hb hnc hcm).mono ?_; rintro e w1 ⟨x, y, t, k, d, f, m, hM, hA, hf', hm', rfl, os0, d0, rfl⟩)
    clear hM hA hf' hm' hb
    obtain ⟨K, hK⟩ : ∃ K, K = w.heap.size + os0.size := ⟨_, rfl⟩
    rw [← hK]
    have hlen := runF_len x y t k d f m
    have c1 := fun W => sRun_any x y t k d f m W
    have c2 := fun W => run_any x y t k d f m W
    have hemp := run_empty (x := x) (y := y) (t := t) (k := k) (d := d) (f := f) (m := m)
    have hval : runB x y t k d f m = true → runF x y t k d f m = runL t k d f (x, y) m.toNat := fun h => by rw [runF, if_pos h]
    generalize runF x y t k d f m = zs at hlen c1 c2 hemp hval
    have HE := Lib.hid hemp
    have HV := Lib.hid hval
    have C1 := Lib.hid c1
    have C2 := Lib.hid c2
    clear hemp hval c1 c2
    have hW1 : Below w.heap.size w ((plus w os0 d0).alloc (.cells #[.int .i64 x, .int .i64 y] 25)) := below_alloc (below_plus (Below.refl _ _) _ _) _
    have hX1 : Box2 ((plus w os0 d0).alloc (.cells #[.int .i64 x, .int .i64 y] 25)) K x y := by
      have : K = (plus w os0 d0).heap.size := by rw [hK, plus_size]
      exact heap_top' this
    generalize (plus w os0 d0).alloc (.cells #[.int .i64 x, .int .i64 y] 25) = W1 at hW1 hX1 ⊢
    have hKw : w.heap.size ≤ K := by omega
    clear hK
    have k0 := hX1.c0
    have k1 := hX1.c1
    have HW1 := Lib.hid hW1
    have HX1 := Lib.hid hX1
    clear hW1 hX1
    go_wp2_with fail
    refine (C2.out _).mono ?_
    rintro e w2 ⟨a2, n2, rfl, hO2, hB2⟩
    have HW2 := Lib.hid (made_below HW1.out hB2)
    have HX2 := Lib.hid (show Box2 w2 K x y from (hB2.block K HX1.out.lt).trans HX1.out)
    have HO2 := Lib.hid (hO2.more (B' := K + 1) HX1.out.lt)
    clear hO2 hB2 k0 k1
    have k0 := HX2.out.c0
    have k1 := HX2.out.c1
    go_wp2_with fail
    refine (C1.out _).mono ?_
    rintro e w3 ⟨a3, n3, rfl, hO3, hB3⟩
    have HW3 := Lib.hid (made_below HW2.out hB3)
    have HX3 := Lib.hid (show Box2 w3 K x y from (hB3.block K HX2.out.lt).trans HX2.out)
    have HO3 := Lib.hid (HO2.out.below hB3)
    have HI3 := Lib.hid hO3.ints.2
    clear hO3 hB3 k0 k1
    go_wp2_with fail
    refine (sameInts_any _ _ _ _ _ zs _ HO3.out.ints.2 HI3.out rfl (by omega)).mono ?_
    rintro e w4 ⟨rfl, e4, rfl⟩
    by_cases hz : zs = []
    · subst hz
      go_wp2_with (first | (go_at_call 22; refine (alive_any _).mono ?_; rintro e w' ⟨rfl, rfl⟩))
      go_ret
      exact ⟨rfl, up_of_below (below_drw HW3.out _)⟩
    · obtain ⟨hB, m1, m2⟩ := HE.out hz
      have hzs := HV.out hB
      obtain ⟨j, rfl⟩ := Int.eq_ofNat_of_zero_le (show 0 ≤ m by omega)
      rw [Int.toNat_natCast] at hzs
      have hj1 : 1 ≤ j := by omega
      simp only [runB, Bool.and_eq_true] at hB
      obtain ⟨h1, h2, h3, h4⟩ := hB
      have HM := Lib.hid h1
      have HA := Lib.hid h2
      have HF := Lib.hid (inB_t.1 h3)
      have hl : zs.length = j := by rw [hzs, runL_length]
      have HL := Lib.hid hl
      have HZ := Lib.hid hzs
      have HR := Lib.hid (rest_run h2 (inB_t.1 h3))
      rw [hl]
      have hj0 : ((j : Int) == 0) = false := by simp; omega
      have HO4 := Lib.hid (show Own (drw w3 e4) (K + 1) (.slice a2 j n2) zs by rw [← hl]; exact HO3.out.drw e4)
      clear h1 h2 h3 h4 hzs hl HE HV hz C1 C2 HO2 HO3 HI3 HX2 HX1 HW1 HW2 m1 hlen
      have HX4 : Hid (Box2 (drw w3 e4) K x y) := HX3.out
      have HW4 : Hid (Below w.heap.size w (drw w3 e4)) := below_drw HW3.out _
      clear HX3 HW3
      generalize drw w3 e4 = W4 at HO4 HX4 HW4 ⊢
      go_wp2
      clear hj0
      go_loopw [10] (fun iv wr => ∃ i : Nat, i ≤ j ∧ iv = .int .i64 i ∧ Hid (Own wr (K + 1) (.slice a2 j n2) zs) ∧ Hid (Below w.heap.size w wr) ∧ Hid (Box2 wr K (runA t k d f i (x, y)).1 (runA t k d f i (x, y)).2)) (fun iv _ => j - (intOf iv).toNat)
      case atStart => exact ⟨0, Nat.zero_le _, rfl, HO4, HW4, HX4⟩
      case round =>
        obtain ⟨i, hi, rfl, HO, HW, HK⟩ := hrel
        by_cases hlt : i < j
        · have hlt' : (i : Int) < (j : Int) := by omega
          obtain ⟨X, Y, hXY⟩ : ∃ X Y, runA t k d f i (x, y) = (X, Y) := ⟨_, _, rfl⟩
          have hval := runA_valid (t := t) (k := k) (d := d) HM.out HF.out i
          rw [hXY] at HK hval
          have HS := Lib.hid (runA_succ hXY)
          have hstep := run_step (aimF X Y t k d) hval (aimF_bd _ _ _ _ _) HF.out
          have HP := Lib.hid hstep
          clear hXY hval hstep
          have hsz : K < wr.heap.size := HK.out.lt
          go_wp2
          refine wp_region_any (by kernel_rfl) ?_
          refine region_last [(51, .agg #[.int .i64 X, .int .i64 Y]), (52, .agg #[.int .i64 X, .int .i64 Y]), (53, .int .i64 t), (54, .int .i64 k), (55, .int .i64 d), (56, .int .i64 (aimF X Y t k d)), (57, .int .i64 f), (58, .agg #[.int .i64 (stepA X Y (aimF X Y t k d) f), .int .i64 (stepS X Y (aimF X Y t k d) f)])] _ _ (by kernel_rfl) (by kernel_rfl) ?_ _ rfl ?_
          · simp only [putAll, Act.put, List.setIfInBounds_toArray, List.set_cons_succ, List.set_cons_zero]
            refine allPure_cons (pure_load _ K X Y rfl rfl HK.out rfl) ?_
            refine allPure_cons (pure_load _ K X Y rfl rfl HK.out rfl) ?_
            refine allPure_cons (pure_move _ (.inl rfl) rfl) ?_
            refine allPure_cons (pure_move _ (.inl rfl) rfl) ?_
            refine allPure_cons (pure_move _ (.inl rfl) rfl) ?_
            refine allPure_cons (pure_call _ _ _ _ aim_enters rfl rfl (fun os d' => aim_any X Y t k d _)) ?_
            refine allPure_cons (pure_move _ (.inl rfl) rfl) ?_
            refine allPure_cons (pure_call _ _ _ _ step_enters rfl rfl (fun os d' => motorStep_any X Y _ f _)) ?_
            exact True.intro
          · intro os d'
            simp only [putAll, Act.put, List.setIfInBounds_toArray, List.set_cons_succ, List.set_cons_zero]
            refine last_store (.tmp 3) (.tmp 58) K X Y _ _ rfl rfl rfl (HK.out.plus os d') rfl ?_
            have B2 := HK.out.set (stepA X Y (aimF X Y t k d) f) (stepS X Y (aimF X Y t k d) f)
            have O2 := (HO.out.setb (i := 0) (show K < K + 1 by omega) (.int .i64 (stepA X Y (aimF X Y t k d) f))).setb (i := 1) (show K < K + 1 by omega) (.int .i64 (stepS X Y (aimF X Y t k d) f))
            have W2 := (HW.out.setCell (p := ⟨K, 0, none⟩) hKw (.int .i64 (stepA X Y (aimF X Y t k d) f))).setCell (p := ⟨K, 1, none⟩) hKw (.int .i64 (stepS X Y (aimF X Y t k d) f))
            change Exit.then _ _ Exit.normal _ (((plus wr os d').setCell ⟨K, 0, none⟩ _).setCell ⟨K, 1, none⟩ _)
            rw [plus_setCell _ _ _ hsz, plus_setCell _ _ _ (by simpa using hsz)]
            generalize ((wr.setCell ⟨K, 0, none⟩ (.int .i64 (stepA X Y (aimF X Y t k d) f))).setCell ⟨K, 1, none⟩ (.int .i64 (stepS X Y (aimF X Y t k d) f))) = V at B2 O2 W2 ⊢
            have V2 := Below.trans W2 ((below_plus (Below.refl V.heap.size V) os d').mono W2.size)
            replace B2 := B2.plus os d'
            replace O2 := O2.plus os d'
            generalize plus V os d' = V' at B2 O2 V2 ⊢
            obtain ⟨blk, off, ha2, hc⟩ : ∃ blk off, a2 = some ⟨blk, off, none⟩ ∧ V'.cell? ⟨blk, off + i, none⟩ = some (.int .i64 (stepA X Y (aimF X Y t k d) f)) := by
              rcases O2.ints.2 with h0 | ⟨blk, off, h0, hc⟩
              · exfalso; have := HL.out; rw [h0] at this; simp at this; omega
              · refine ⟨blk, off, h0, ?_⟩
                have h1 := hc i (by rw [HL.out]; exact hlt)
                rw [HZ.out, runL_getD _ _ _ _ _ hlt, HS.out] at h1
                exact h1
            subst ha2
            have b0 := B2.c0
            have HB2 := Lib.hid B2
            have HO2 := Lib.hid O2
            have HV2 := Lib.hid V2
            clear B2 O2 V2 W2
            apply_assumption
            go_wp2
            go_quiet (fail)
            go_wp2
            go_roundw
            case rel =>
              refine ⟨i + 1, by omega, by go_num, HO2.out, below_drewN HV2.out _, ?_⟩
              show Box2 _ _ _ _
              rw [HS.out]
              exact HB2.out
            case measure => simp [intOf]; omega
        · have hlt' : ¬ (i : Int) < (j : Int) := by omega
          obtain rfl : i = j := by omega
          have C3 := Lib.hid (fun W => run_any t 0 t k d f 3 W)
          rw [HR.out] at C3
          go_wp2_with fail
          refine (C3.out _).mono ?_
          rintro e w5 ⟨a5, n5, rfl, hO5, hB5⟩
          have HW5 := Lib.hid (made_below HW.out hB5)
          have HI5 := Lib.hid hO5.ints.2
          clear hO5 hB5
          go_wp2_with fail
          refine (sameInts_any _ _ _ _ 3 [t, t, t] _ (HI5.out.below (below_alloc (Below.refl _ _) _)) (lit3 _ (by first | rfl | simp)) rfl (by omega)).mono ?_
          rintro e w6 ⟨rfl, e6, rfl⟩
          go_wp2
          go_ret
          exact ⟨rfl, up_of_below (below_drw (below_alloc HW5.out _) _)⟩
  · go_enter Try.func13, Try.ntmps13
    go_wp2
    go_ret
    exact ⟨rfl, up_of_below (Below.refl _ _)⟩

end Go.Proofs.Ytelcaafnjahbkaa
