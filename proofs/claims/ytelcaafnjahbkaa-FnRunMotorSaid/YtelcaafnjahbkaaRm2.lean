/-
  Contracts of the runs of a motor (program and reference). No condition.
-/
import Derived.Test.YtelcaafnjahbkaaRm
import Derived.Test.YtelcaafnjahbkaaMoL2
namespace Go.Proofs.Ytelcaafnjahbkaa
open Go.RowKit

theorem heap_top' {W : World} {o : Obj} {k : Nat} (h : k = W.heap.size) : (W.alloc o).heap[k]? = some o := by subst h; exact heap_alloc_new W o
theorem heap_under' {W : World} {o o' : Obj} {k : Nat} (h : k < W.heap.size) (hh : W.heap[k]? = some o') : (W.alloc o).heap[k]? = some o' := (Below.heap_alloc W o k h).trans hh

theorem cell_newR {w : World} {cs : Array Value} {e : TypeId} {k i : Nat} {v : Value} (hk : k = w.heap.size) (hv : cs[i]? = some v) : (w.alloc (.cells cs e)).cell? ⟨k, i, none⟩ = some v := by
  subst hk
  exact (World.cell?_alloc_new w cs e i).trans hv
theorem own_made' {W : World} {B k : Nat} {os : Array Obj} {d : Nat} (hk : k = W.heap.size) (hB : B ≤ W.heap.size) : Own (plus (W.alloc (.cells #[] 3)) os d) B (.slice (some ⟨k, 0, none⟩) 0 0) [] := by
  subst hk
  exact (Own.made W B hB).plus os d

set_option maxHeartbeats 4000000 in
theorem run_any (a s t k d f m : Int) (w : World) :
    Calls Try.prog 31 #[.agg #[.int .i64 a, .int .i64 s], .int .i64 t, .int .i64 k, .int .i64 d, .int .i64 f, .int .i64 m] w (Made w (runF a s t k d f m)) := by
  cases hB : runB a s t k d f m
  · have hF : runF a s t k d f m = [] := by rw [runF, hB]; rfl
    rw [hF]
    clear hF
    cases h1 : motB a s <;> cases h2 : aimB t k d <;> cases h3 : inB f 0 100 <;> cases h4 : inB m 0 400
    case true.true.true.true => rw [runB, h1, h2, h3, h4] at hB; cases hB
    all_goals
      clear hB
      go_enter Try.func31, Try.ntmps31
      go_wp2_with (first | (go_at_call 16; refine (motorValid_any _ _ _).mono ?_; rintro e w1 ⟨rfl, hup⟩; (first | (replace hup := up_join hup) | skip); obtain ⟨os2, dos2, rfl⟩ := hup) | (go_at_call 42; refine (aimFits_any _ _ _ _).mono ?_; rintro e w' ⟨rfl, rfl⟩) | (go_at_call 38; refine (within_any _ _ _ _).mono ?_; rintro e w' ⟨rfl, rfl⟩))
      go_ret
      exact made (Own.nil _ _) (by repeat (first | with_reducible exact Below.refl _ _ | with_reducible apply below_alloc | with_reducible apply below_drw | with_reducible apply below_drew | with_reducible apply below_drewN | with_reducible apply below_plus | with_reducible apply below_set | (simp; done)))
  · have hF : runF a s t k d f m = runL t k d f (a, s) m.toNat := by rw [runF, if_pos hB]
    simp only [runB, Bool.and_eq_true] at hB
    obtain ⟨h1, h2, h3, h4⟩ := hB
    obtain ⟨m1, m2⟩ := inB_t.1 h4
    have hf := inB_t.1 h3
    obtain ⟨n, rfl⟩ := Int.eq_ofNat_of_zero_le m1
    rw [Int.toNat_natCast] at hF
    rw [hF]
    clear hF
    have HM := Lib.hid h1
    have HA := Lib.hid h2
    obtain ⟨i1, i2, i3⟩ := aimB_t.1 h2
    have i1 : inB t (-10000) 10000 = true := inB_t.2 i1
    have i2 : inB k 0 64 = true := inB_t.2 i2
    have i3 : inB d 0 64 = true := inB_t.2 i3
    have HF := Lib.hid hf
    clear hf
    go_enter Try.func31, Try.ntmps31
    go_wp2_with (first | (go_at_call 16; refine (motorValid_any _ _ _).mono ?_; rintro e w1 ⟨rfl, hup⟩; (first | (replace hup := up_join hup) | skip); obtain ⟨os2, dos2, rfl⟩ := hup) | (go_at_call 42; refine (aimFits_any _ _ _ _).mono ?_; rintro e w' ⟨rfl, rfl⟩) | (go_at_call 38; refine (within_any _ _ _ _).mono ?_; rintro e w' ⟨rfl, rfl⟩))
    clear h1 h2 h3 h4 i1 i2 i3
    go_loopw [13, 35] (fun v' iv wr => ∃ j : Nat, j ≤ n ∧ iv = .int .i64 j ∧ Hid (Own wr (w.heap.size + 1) v' (runL t k d f (a, s) j)) ∧ Hid (Below w.heap.size w wr) ∧ Hid (Box2 wr w.heap.size (runA t k d f j (a, s)).1 (runA t k d f j (a, s)).2)) (fun _ iv _ => n - (intOf iv).toNat)
    case atStart =>
      refine ⟨0, Nat.zero_le _, rfl, ?_, ?_, ?_⟩
      · show Own _ _ _ _
        first | exact Own.nil _ _ | exact own_made' (by simp) (by simp)
      · show Below _ _ _
        repeat (first | with_reducible exact Below.refl _ _ | with_reducible apply below_alloc | with_reducible apply below_drw | with_reducible apply below_drew | with_reducible apply below_drewN | with_reducible apply below_plus | with_reducible apply below_set | (simp; done))
      · show Box2 _ _ _ _
        first | exact (plus_block (by first | (simp; done) | (simp; omega))).trans (heap_under' (by first | (simp; done) | (simp; omega)) (heap_top' rfl)) | exact (plus_block (by first | (simp; done) | (simp; omega))).trans (heap_top' rfl)
    case round =>
      obtain ⟨j, hj, rfl, HO, HW, HK⟩ := hrel
      by_cases hlt : j < n
      · have hlt' : (j : Int) < (n : Int) := by omega
        obtain ⟨X, Y, hXY⟩ : ∃ X Y, runA t k d f j (a, s) = (X, Y) := ⟨_, _, rfl⟩
        have hval := runA_valid (t := t) (k := k) (d := d) HM.out HF.out j
        rw [hXY] at HK hval
        have HS := Lib.hid (runA_succ hXY)
        have HV := Lib.hid hval
        have hstep := run_step (aimF X Y t k d) hval (aimF_bd _ _ _ _ _) HF.out
        have HP := Lib.hid hstep
        clear hXY hval hstep
        have hsz : w.heap.size < wr.heap.size := HK.out.lt
        go_wp2
        refine wp_region_any (by kernel_rfl) ?_
        refine region_last [(37, .agg #[.int .i64 X, .int .i64 Y]), (38, .agg #[.int .i64 X, .int .i64 Y]), (39, .int .i64 t), (40, .int .i64 k), (41, .int .i64 d), (42, .int .i64 (aimF X Y t k d)), (43, .int .i64 f), (44, .agg #[.int .i64 (stepA X Y (aimF X Y t k d) f), .int .i64 (stepS X Y (aimF X Y t k d) f)])] _ _ (by kernel_rfl) (by kernel_rfl) ?_ _ rfl ?_
        · simp only [putAll, Act.put, List.setIfInBounds_toArray, List.set_cons_succ, List.set_cons_zero]
          refine allPure_cons (pure_load _ w.heap.size X Y rfl rfl HK.out rfl) ?_
          refine allPure_cons (pure_load _ w.heap.size X Y rfl rfl HK.out rfl) ?_
          refine allPure_cons (pure_move _ (.inl rfl) rfl) ?_
          refine allPure_cons (pure_move _ (.inl rfl) rfl) ?_
          refine allPure_cons (pure_move _ (.inl rfl) rfl) ?_
          refine allPure_cons (pure_call _ _ _ _ aim_enters rfl rfl (fun os d' => aim_any X Y t k d _)) ?_
          refine allPure_cons (pure_move _ (.inl rfl) rfl) ?_
          refine allPure_cons (pure_call _ _ _ _ step_enters rfl rfl (fun os d' => motorStep_any X Y _ f _)) ?_
          exact True.intro
        · intro os d'
          simp only [putAll, Act.put, List.setIfInBounds_toArray, List.set_cons_succ, List.set_cons_zero]
          refine last_store (.tmp 6) (.tmp 44) w.heap.size X Y _ _ rfl rfl rfl (HK.out.plus os d') rfl ?_
          have B2 := HK.out.set (stepA X Y (aimF X Y t k d) f) (stepS X Y (aimF X Y t k d) f)
          have b0 := B2.c0
          have HB2 := Lib.hid B2
          clear B2
          have HO2 := Lib.hid ((HO.out.setb (i := 0) (show w.heap.size < w.heap.size + 1 by omega) (.int .i64 (stepA X Y (aimF X Y t k d) f))).setb (i := 1) (show w.heap.size < w.heap.size + 1 by omega) (.int .i64 (stepS X Y (aimF X Y t k d) f)))
          apply_assumption
          go_wp2_with (at_builtin; (refine wpList_app rfl _ _ rfl (w.heap.size + 1) _ _ rfl ((HO2.out.plus os _).alloc _) ⟨_, 0, none⟩ _ rfl (cell_newR (by simp [plus_size]) rfl) (by rw [runL_length]; omega) (by simp [plus_size]; omega) ?_); intro v1 w1 hown hgrow)
          have HO1 := Lib.hid hown
          have HG1 := Lib.hid hgrow
          clear hown hgrow b0
          go_wp2
          go_roundw
          case rel =>
            have hW2 : Below w.heap.size w ((wr.setCell ⟨w.heap.size, 0, none⟩ (.int .i64 (stepA X Y (aimF X Y t k d) f))).setCell ⟨w.heap.size, 1, none⟩ (.int .i64 (stepS X Y (aimF X Y t k d) f))) := (HW.out.setCell (Nat.le_refl _) _).setCell (Nat.le_refl _) _
            refine ⟨j + 1, by omega, by go_num, ?_, ?_, ?_⟩
            · show Own _ _ _ _
              rw [runL, HS.out]
              exact HO1.out
            · show Below _ _ _
              exact (below_alloc (below_plus hW2 _ _) _).grown HG1.out (by simp [plus_size]; omega) (fun g hg => by have := (HO2.out.lt g hg).1; omega)
            · show Box2 _ _ _ _
              rw [HS.out]
              exact ((HB2.out.plus os _).alloc _).grown ((HO2.out.plus os _).alloc _) (by omega) HG1.out
          case measure => simp [intOf]; omega
      · have hlt' : ¬ (j : Int) < (n : Int) := by omega
        obtain rfl : j = n := by omega
        go_wp2
        go_ret
        exact made (HO.out.more (by omega)) HW.out

set_option maxHeartbeats 4000000 in
theorem sRun_any (a s t k d f m : Int) (w : World) :
    Calls Try.prog 30 #[.agg #[.int .i64 a, .int .i64 s], .int .i64 t, .int .i64 k, .int .i64 d, .int .i64 f, .int .i64 m] w (Made w (runF a s t k d f m)) := by
  cases hB : runB a s t k d f m
  · have hF : runF a s t k d f m = [] := by rw [runF, hB]; rfl
    rw [hF]
    clear hF
    cases h1 : motB a s
    · clear hB
      go_enter Try.func30, Try.ntmps30
      go_wp2_with (first | (go_at_call 14; refine (sMotorValid_any _ _ _).mono ?_; rintro e w1 ⟨rfl, hup⟩; (first | (replace hup := up_join hup) | skip); obtain ⟨os2, dos2, rfl⟩ := hup) | (go_at_call 37; refine (l1In_any _ _ _ _).mono ?_; rintro e w' ⟨rfl, rfl⟩))
      go_ret
      exact made (own_made' (by simp) (by simp)) (by repeat (first | with_reducible exact Below.refl _ _ | with_reducible apply below_alloc | with_reducible apply below_drw | with_reducible apply below_drew | with_reducible apply below_drewN | with_reducible apply below_plus | with_reducible apply below_set | (simp; done)))
    · cases i1 : inB t (-10000) 10000 <;> cases i2 : inB k 0 64 <;> cases i3 : inB d 0 64 <;> cases h3 : inB f 0 100 <;> cases h4 : inB m 0 400
      case true.true.true.true.true => rw [runB, aimB, h1, i1, i2, i3, h3, h4] at hB; cases hB
      all_goals
        clear hB
        go_enter Try.func30, Try.ntmps30
        go_wp2_with (first | (go_at_call 14; refine (sMotorValid_any _ _ _).mono ?_; rintro e w1 ⟨rfl, hup⟩; (first | (replace hup := up_join hup) | skip); obtain ⟨os2, dos2, rfl⟩ := hup) | (go_at_call 37; refine (l1In_any _ _ _ _).mono ?_; rintro e w' ⟨rfl, rfl⟩))
        go_ret
        exact made (own_made' (by simp) (by simp)) (by repeat (first | with_reducible exact Below.refl _ _ | with_reducible apply below_alloc | with_reducible apply below_drw | with_reducible apply below_drew | with_reducible apply below_drewN | with_reducible apply below_plus | with_reducible apply below_set | (simp; done)))
  · have hF : runF a s t k d f m = runL t k d f (a, s) m.toNat := by rw [runF, if_pos hB]
    simp only [runB, Bool.and_eq_true] at hB
    obtain ⟨h1, h2, h3, h4⟩ := hB
    obtain ⟨m1, m2⟩ := inB_t.1 h4
    have hf := inB_t.1 h3
    obtain ⟨n, rfl⟩ := Int.eq_ofNat_of_zero_le m1
    rw [Int.toNat_natCast] at hF
    rw [hF]
    clear hF
    have HM := Lib.hid h1
    have HA := Lib.hid h2
    obtain ⟨i1, i2, i3⟩ := aimB_t.1 h2
    have i1 : inB t (-10000) 10000 = true := inB_t.2 i1
    have i2 : inB k 0 64 = true := inB_t.2 i2
    have i3 : inB d 0 64 = true := inB_t.2 i3
    have HF := Lib.hid hf
    clear hf
    go_enter Try.func30, Try.ntmps30
    go_wp2_with (first | (go_at_call 14; refine (sMotorValid_any _ _ _).mono ?_; rintro e w1 ⟨rfl, hup⟩; (first | (replace hup := up_join hup) | skip); obtain ⟨os2, dos2, rfl⟩ := hup) | (go_at_call 37; refine (l1In_any _ _ _ _).mono ?_; rintro e w' ⟨rfl, rfl⟩))
    clear h1 h2 h3 h4 i1 i2 i3
    go_loopw [13, 14] (fun v' iv wr => ∃ j : Nat, j ≤ n ∧ iv = .int .i64 j ∧ Hid (Own wr (w.heap.size + 1) v' (runL t k d f (a, s) j)) ∧ Hid (Below w.heap.size w wr) ∧ Hid (Box2 wr w.heap.size (runA t k d f j (a, s)).1 (runA t k d f j (a, s)).2)) (fun _ iv _ => n - (intOf iv).toNat)
    case atStart =>
      refine ⟨0, Nat.zero_le _, rfl, ?_, ?_, ?_⟩
      · show Own _ _ _ _
        first | exact Own.nil _ _ | exact own_made' (by simp) (by simp)
      · show Below _ _ _
        repeat (first | with_reducible exact Below.refl _ _ | with_reducible apply below_alloc | with_reducible apply below_drw | with_reducible apply below_drew | with_reducible apply below_drewN | with_reducible apply below_plus | with_reducible apply below_set | (simp; done))
      · show Box2 _ _ _ _
        first | exact (plus_block (by first | (simp; done) | (simp; omega))).trans (heap_under' (by first | (simp; done) | (simp; omega)) (heap_top' rfl)) | exact (plus_block (by first | (simp; done) | (simp; omega))).trans (heap_top' rfl)
    case round =>
      obtain ⟨j, hj, rfl, HO, HW, HK⟩ := hrel
      by_cases hlt : j < n
      · have hlt' : (j : Int) < (n : Int) := by omega
        obtain ⟨X, Y, hXY⟩ : ∃ X Y, runA t k d f j (a, s) = (X, Y) := ⟨_, _, rfl⟩
        have hval := runA_valid (t := t) (k := k) (d := d) HM.out HF.out j
        rw [hXY] at HK hval
        have HS := Lib.hid (runA_succ hXY)
        have HV := Lib.hid hval
        have hstep := run_step (aimF X Y t k d) hval (aimF_bd _ _ _ _ _) HF.out
        have HP := Lib.hid hstep
        clear hXY hval hstep
        have hsz : w.heap.size < wr.heap.size := HK.out.lt
        go_wp2
        refine wp_region_any (by kernel_rfl) ?_
        refine region_last [(50, .agg #[.int .i64 X, .int .i64 Y]), (51, .agg #[.int .i64 X, .int .i64 Y]), (52, .int .i64 t), (53, .int .i64 k), (54, .int .i64 d), (55, .int .i64 (aimF X Y t k d)), (56, .int .i64 f), (57, .agg #[.int .i64 (stepA X Y (aimF X Y t k d) f), .int .i64 (stepS X Y (aimF X Y t k d) f)])] _ _ (by kernel_rfl) (by kernel_rfl) ?_ _ rfl ?_
        · simp only [putAll, Act.put, List.setIfInBounds_toArray, List.set_cons_succ, List.set_cons_zero]
          refine allPure_cons (pure_load _ w.heap.size X Y rfl rfl HK.out rfl) ?_
          refine allPure_cons (pure_load _ w.heap.size X Y rfl rfl HK.out rfl) ?_
          refine allPure_cons (pure_move _ (.inl rfl) rfl) ?_
          refine allPure_cons (pure_move _ (.inl rfl) rfl) ?_
          refine allPure_cons (pure_move _ (.inl rfl) rfl) ?_
          refine allPure_cons (pure_call _ _ _ _ sAim_enters rfl rfl (fun os d' => (l14Aim_any X Y t k d _ HV.out HA.out).mono fun e w1 ⟨h1, h2⟩ => ⟨by rw [h1, ← aim_valid HV.out HA.out]; rfl, h2⟩)) ?_
          refine allPure_cons (pure_move _ (.inl rfl) rfl) ?_
          refine allPure_cons (pure_call _ _ _ _ sStep_enters rfl rfl (fun os d' => (l14Step_any X Y _ f _ HP.out.1).mono fun e w1 ⟨h1, h2⟩ => ⟨by rw [h1, ← HP.out.2.1, ← HP.out.2.2.1]; rfl, h2⟩)) ?_
          exact True.intro
        · intro os d'
          simp only [putAll, Act.put, List.setIfInBounds_toArray, List.set_cons_succ, List.set_cons_zero]
          refine last_store (.tmp 6) (.tmp 57) w.heap.size X Y _ _ rfl rfl rfl (HK.out.plus os d') rfl ?_
          have B2 := HK.out.set (stepA X Y (aimF X Y t k d) f) (stepS X Y (aimF X Y t k d) f)
          have b0 := B2.c0
          have HB2 := Lib.hid B2
          clear B2
          have HO2 := Lib.hid ((HO.out.setb (i := 0) (show w.heap.size < w.heap.size + 1 by omega) (.int .i64 (stepA X Y (aimF X Y t k d) f))).setb (i := 1) (show w.heap.size < w.heap.size + 1 by omega) (.int .i64 (stepS X Y (aimF X Y t k d) f)))
          apply_assumption
          go_wp2_with (at_builtin; (refine wpList_app rfl _ _ rfl (w.heap.size + 1) _ _ rfl ((HO2.out.plus os _).alloc _) ⟨_, 0, none⟩ _ rfl (cell_newR (by simp [plus_size]) rfl) (by rw [runL_length]; omega) (by simp [plus_size]; omega) ?_); intro v1 w1 hown hgrow)
          have HO1 := Lib.hid hown
          have HG1 := Lib.hid hgrow
          clear hown hgrow b0
          go_wp2
          go_roundw
          case rel =>
            have hW2 : Below w.heap.size w ((wr.setCell ⟨w.heap.size, 0, none⟩ (.int .i64 (stepA X Y (aimF X Y t k d) f))).setCell ⟨w.heap.size, 1, none⟩ (.int .i64 (stepS X Y (aimF X Y t k d) f))) := (HW.out.setCell (Nat.le_refl _) _).setCell (Nat.le_refl _) _
            refine ⟨j + 1, by omega, by go_num, ?_, ?_, ?_⟩
            · show Own _ _ _ _
              rw [runL, HS.out]
              exact HO1.out
            · show Below _ _ _
              exact (below_alloc (below_plus hW2 _ _) _).grown HG1.out (by simp [plus_size]; omega) (fun g hg => by have := (HO2.out.lt g hg).1; omega)
            · show Box2 _ _ _ _
              rw [HS.out]
              exact ((HB2.out.plus os _).alloc _).grown ((HO2.out.plus os _).alloc _) (by omega) HG1.out
          case measure => simp [intOf]; omega
      · have hlt' : ¬ (j : Int) < (n : Int) := by omega
        obtain rfl : j = n := by omega
        go_wp2
        go_ret
        exact made (HO.out.more (by omega)) HW.out

end Go.Proofs.Ytelcaafnjahbkaa
