/-
  The walk of the law on rotated points and frames: where the listed table of the cosine reads as listed. Conditions: those that each theorem states.
-/
import Derived.Test.YtnanipehcikcjaaDoorRoT
namespace Go.Proofs.YtnanipehcikcjaaDoor
set_option linter.unusedSimpArgs false
open Go.RowKit

theorem q_cases {q : Int} (h1 : 0 ≤ q) (h2 : q ≤ 3) : q = 0 ∨ q = 1 ∨ q = 2 ∨ q = 3 := by omega
/-- A point's rotation by quarter turns. -/
theorem rot_q {x y q : Int} (hp : ptB x y = true) (h1 : 0 ≤ q) (h2 : q ≤ 3) (w : World) (hC : CosT w) :
    Calls Tryd.prog 9 #[.agg #[.int .i64 x, .int .i64 y], .int .i64 (90 * q)] w fun e w' => e = .returned (.agg #[.int .i64 (qx x y q), .int .i64 (qy x y q)]) ∧ Up w w' := by
  obtain ⟨⟨b1, b2⟩, b3, b4⟩ := ptB_t.1 hp
  rcases q_cases h1 h2 with rfl | rfl | rfl | rfl
  · exact rotate_any x y 0 4096 x y (90 * 0) _ _ _ _ w hC hp (fun W _ => sine0 _ W (by decide) (by decide) (by decide)) (fun W h => cosine_any _ 0 _ W (by decide) (by decide) (by decide) (sine1 _ W (by decide) (by decide) (by decide) h)) (IntWalk.i64_in _ (by omega)) (IntWalk.i64_in _ (by omega)) (IntWalk.i64_in _ (by omega)) (IntWalk.i64_in _ (by omega)) (by omega) (by omega) (by omega) (by omega) (by omega) (by omega)
  · exact rotate_any x y 4096 0 (-y) x (90 * 1) _ _ _ _ w hC hp (fun W h => sine1 _ W (by decide) (by decide) (by decide) h) (fun W _ => cosine_any _ 90 _ W (by decide) (by decide) (by decide) (sine2 _ W (by decide) (by decide) (by decide))) (IntWalk.i64_in _ (by omega)) (IntWalk.i64_in _ (by omega)) (IntWalk.i64_in _ (by omega)) (IntWalk.i64_in _ (by omega)) (by omega) (by omega) (by omega) (by omega) (by omega) (by omega)
  · exact rotate_any x y 0 (-4096) (-x) (-y) (90 * 2) _ _ _ _ w hC hp (fun W _ => sine2 _ W (by decide) (by decide) (by decide)) (fun W h => cosine_any _ 180 _ W (by decide) (by decide) (by decide) (sine3 _ W (by decide) (by decide) (by decide) h)) (IntWalk.i64_in _ (by omega)) (IntWalk.i64_in _ (by omega)) (IntWalk.i64_in _ (by omega)) (IntWalk.i64_in _ (by omega)) (by omega) (by omega) (by omega) (by omega) (by omega) (by omega)
  · exact rotate_any x y (-4096) 0 (- -y) (-x) (90 * 3) _ _ _ _ w hC hp (fun W h => sine3 _ W (by decide) (by decide) (by decide) h) (fun W _ => cosine_any _ 270 _ W (by decide) (by decide) (by decide) (sine0 _ W (by decide) (by decide) (by decide))) (IntWalk.i64_in _ (by omega)) (IntWalk.i64_in _ (by omega)) (IntWalk.i64_in _ (by omega)) (IntWalk.i64_in _ (by omega)) (by omega) (by omega) (by omega) (by omega) (by omega) (by omega)
theorem sapp_enters (args : Array Value) (w : World) : (callFunc 6 args).run Tryd.prog w = .ok (.enter 6 args) w := (enters_of Tryd.func6 (by kernel_rfl) rfl) args w
theorem rot_enters (args : Array Value) (w : World) : (callFunc 9 args).run Tryd.prog w = .ok (.enter 9 args) w := (enters_of Tryd.func9 (by kernel_rfl) rfl) args w
theorem ap0 {q px py : Int} (h1 : 0 ≤ q) (h2 : q ≤ 3) (hp : ptB px py = true) : apX 0 0 q px py = qx px py q ∧ apY 0 0 q px py = qy px py q := by
  have hB : apB 0 0 q px py = true := by unfold apB; rw [hp, frB_t.2 (by omega)]; rfl
  unfold apX apY
  rw [if_pos hB, if_pos hB]
  exact ⟨Int.zero_add _, Int.zero_add _⟩
theorem ap0_not {q px py : Int} (h : ¬ ((0 ≤ q ∧ q ≤ 3) ∧ ptB px py = true)) : apX 0 0 q px py = 0 ∧ apY 0 0 q px py = 0 := by
  have hB : apB 0 0 q px py = false := by
    cases hb : apB 0 0 q px py with
    | false => rfl
    | true =>
      unfold apB at hb
      rw [Bool.and_eq_true] at hb
      exact absurd ⟨(frB_t.1 hb.1).2.2, hb.2⟩ h
  unfold apX apY
  rw [hB]
  exact ⟨rfl, rfl⟩

set_option maxRecDepth 100000 in
set_option maxHeartbeats 4000000 in
theorem lawRotateFrame_any (a : Option Addr) (n c : Nat) (w : World) (hCT : CosT w) (hb : Bytes w w.heap.size a n) (hnc : n ≤ c) (hcm : c ≤ maxLen) :
    Calls Tryd.prog 3 #[.slice a n c] w fun e w' => e = .returned (.bool true) ∧ Up w w' := by
  have hmm : c ≤ 9223372036854775807 := by unfold maxLen at hcm; omega
  have CT := Lib.hid hCT
  clear hCT
  by_cases hn : n ≤ 1048576
  · go_enter Tryd.func3, Tryd.ntmps3
    go_wp2_with (first | (go_at_call 4; refine (drawApplyFrame_any _ _ _ _ hb hnc hcm).mono ?_; rintro e w1 ⟨x, y, q, px, py, hF, hP, rfl, os0, d0, rfl⟩))
    have S5 := Lib.hid (fun W => sApply_any 0 0 q px py W)
    have A5 := Lib.hid (fun W => apply_any 0 0 q px py W)
    have hq : -1 ≤ q ∧ q ≤ 4 := hF.2.2
    obtain ⟨hq0, hq4⟩ := hq
    clear hF hP
    by_cases hV : (0 ≤ q ∧ q ≤ 3) ∧ ptB px py = true
    · obtain ⟨⟨q1, q2⟩, hp⟩ := hV
      obtain ⟨i1, i2⟩ := ap0 q1 q2 hp
      rw [i1, i2] at S5 A5
      have RQ := Lib.hid (fun W (h : CosT W) => rot_q hp q1 q2 W h)
      generalize qx px py q = X at S5 A5 RQ
      generalize qy px py q = Y at S5 A5 RQ
      have HP := Lib.hid (fun W => sPointValid_any px py W)
      rw [hp] at HP
      have w90 : IntKind.i64.wrap (90 * q) = 90 * q := IntWalk.i64_in _ (by omega)
      clear i1 i2 hp
      go_wp2_with fail
      refine (A5.out _).mono ?_
      rintro e w1 ⟨rfl, os2, d2, rfl⟩
      go_wp2
      refine wp_forget (fun W => Hid (BoxF W (w.heap.size + os0.size) x y q) ∧ Hid (BoxP W (w.heap.size + os0.size + 1) px py) ∧ Hid (BoxP W (w.heap.size + os0.size + 1 + 1 + os2.size) X Y) ∧ Hid (Below w.heap.size w W)) ⟨⟨by simp [go_sem], by simp [go_sem], by simp [go_sem], by simp [go_sem]⟩, ⟨by simp [go_sem], by simp [go_sem], by simp [go_sem]⟩, ⟨by simp [go_sem], by simp [go_sem], by simp [go_sem]⟩, show Below _ _ _ by repeat (first | with_reducible exact Below.refl _ _ | with_reducible apply below_alloc | with_reducible apply below_drw | with_reducible apply below_drew | with_reducible apply below_drewN | with_reducible apply below_plus | with_reducible apply below_set | (simp; done))⟩ ?_
      rintro W ⟨B3, B4, B5, HW⟩
      generalize w.heap.size + os0.size + 1 + 1 + os2.size = r5 at B5 ⊢
      generalize w.heap.size + os0.size + 1 = r4 at B4 ⊢
      generalize w.heap.size + os0.size = r3 at B3 ⊢
      refine wp_region_any (by kernel_rfl) ?_
      refine region_lastG [(19, .agg #[.int .i64 X, .int .i64 Y]), (20, .pointer (some ⟨r3, 2, none⟩)), (21, .int .i64 q), (22, .agg #[.int .i64 0, .int .i64 0, .int .i64 q]), (23, .agg #[.int .i64 px, .int .i64 py]), (24, .agg #[.int .i64 X, .int .i64 Y])] [] _ _ (by kernel_rfl) (by kernel_rfl) ?_ ?_ _ rfl ?_
      · simp only [putAll, Act.put, List.setIfInBounds_toArray, List.set_cons_succ, List.set_cons_zero]
        intro gQ hgQ
        exact absurd hgQ (List.not_mem_nil)
      · simp only [putAll, Act.put, List.setIfInBounds_toArray, List.set_cons_succ, List.set_cons_zero]
        refine allG_cons (pure_load2 _ r5 _ _ rfl rfl (B5.out.blocks rfl) rfl) (by kernel_rfl) ?_
        refine allG_cons (by refine pure_quiet fun aQ osQ dQ hgQ => ?_; have h1Q : aQ.eval (.tmp 3) = .pointer (some ⟨r3, 0, none⟩) := hgQ (.tmp 3) (by simp [Op.operands, Call.operands]); have hcQ : ∀ v, aQ.eval (.const v) = v := fun _ => rfl; generalize aQ.eval = rQ at h1Q hcQ; clear hgQ; simp [execOp, h1Q, hcQ, resolve, invoke, builtin, go_sem, *] <;> rfl) (by kernel_rfl) ?_
        refine allG_cons (pure_load1 _ r3 2 _ rfl rfl B3.out.lt B3.out.c2 rfl) (by kernel_rfl) ?_
        refine allG_cons (by refine pure_quiet fun aQ osQ dQ hgQ => ?_; have h1Q : aQ.eval (.tmp 21) = .int .i64 q := hgQ (.tmp 21) (by simp [Op.operands, Call.operands]); have hcQ : ∀ v, aQ.eval (.const v) = v := fun _ => rfl; generalize aQ.eval = rQ at h1Q hcQ; clear hgQ; simp [execOp, h1Q, hcQ, resolve, invoke, builtin, go_sem, *] <;> rfl) (by kernel_rfl) ?_
        refine allG_cons (pure_load2 _ r4 _ _ rfl rfl (B4.out.blocks rfl) rfl) (by kernel_rfl) ?_
        refine allG_cons (pure_call _ _ _ _ sapp_enters rfl rfl (fun os d => S5.out _)) (by kernel_rfl) ?_
        exact True.intro
      · intro osL dL
        simp only [putAll, Act.put, List.setIfInBounds_toArray, List.set_cons_succ, List.set_cons_zero]
        refine last_quiet2 25 (.bool false) (.tmp 19) (.tmp 24) _ _ rfl rfl rfl (fun ρ h1 h2 => by simp [execOp, h1, h2, go_sem]) ?_
        simp only [Act.put, List.setIfInBounds_toArray, List.set_cons_succ, List.set_cons_zero]
        show Exit.then _ _ Exit.normal _ (plus W osL dL)
        have D3 := (plus_cell (os := osL) (d := dL) r3 2 B3.out.lt).trans B3.out.c2
        have D40 := (plus_cell (os := osL) (d := dL) r4 0 B4.out.lt).trans B4.out.c0
        have D41 := (plus_cell (os := osL) (d := dL) r4 1 B4.out.lt).trans B4.out.c1
        have D50 := (plus_cell (os := osL) (d := dL) r5 0 B5.out.lt).trans B5.out.c0
        have D51 := (plus_cell (os := osL) (d := dL) r5 1 B5.out.lt).trans B5.out.c1
        have B3 := Lib.hid (B3.out.below (below_plus (Below.refl _ _) osL dL))
        have B4 := Lib.hid (B4.out.below (below_plus (Below.refl _ _) osL dL))
        have B5 := Lib.hid (B5.out.below (below_plus (Below.refl _ _) osL dL))
        have HW := Lib.hid (below_plus HW.out osL dL)
        have lt3 := B3.out.lt
        have lt4 := B4.out.lt
        have lt5 := B5.out.lt
        clear S5 A5
        generalize plus W osL dL = W2 at D3 D40 D41 D50 D51 B3 B4 B5 HW lt3 lt4 lt5 ⊢
        go_wp2_with fail
        refine (HP.out _).mono ?_
        rintro e w1 ⟨rfl, os3, d3, rfl⟩
        go_wp2
        refine wp_forget (fun W => Hid (BoxF W r3 x y q) ∧ Hid (BoxP W r4 px py) ∧ Hid (BoxP W r5 X Y) ∧ Hid (Below w.heap.size w W)) ⟨B3.out.below (by first | exact Below.refl _ _ | (repeat (first | with_reducible exact Below.refl _ _ | with_reducible apply below_alloc | with_reducible apply below_drw | with_reducible apply below_drew | with_reducible apply below_drewN | with_reducible apply below_plus | with_reducible apply below_set | (simp; done)))), B4.out.below (by first | exact Below.refl _ _ | (repeat (first | with_reducible exact Below.refl _ _ | with_reducible apply below_alloc | with_reducible apply below_drw | with_reducible apply below_drew | with_reducible apply below_drewN | with_reducible apply below_plus | with_reducible apply below_set | (simp; done)))), B5.out.below (by first | exact Below.refl _ _ | (repeat (first | with_reducible exact Below.refl _ _ | with_reducible apply below_alloc | with_reducible apply below_drw | with_reducible apply below_drew | with_reducible apply below_drewN | with_reducible apply below_plus | with_reducible apply below_set | (simp; done)))), show Below _ _ _ by first | exact HW.out | exact below_plus HW.out _ _⟩ ?_
        clear B3 B4 B5 HW D3 D40 D41 D50 D51 lt3 lt4 lt5
        rintro W ⟨B3, B4, B5, HW⟩
        have CT := Lib.hid (CT.out.below HW.out)
        refine wp_region_any (by kernel_rfl) ?_
        refine region_lastG [(45, .agg #[.int .i64 X, .int .i64 Y]), (46, .agg #[.int .i64 px, .int .i64 py]), (47, .pointer (some ⟨r3, 2, none⟩)), (48, .int .i64 q), (49, .int .i64 (90 * q)), (50, .agg #[.int .i64 X, .int .i64 Y]), (51, .bool true)] [] _ _ (by kernel_rfl) (by kernel_rfl) ?_ ?_ _ rfl ?_
        · simp only [putAll, Act.put, List.setIfInBounds_toArray, List.set_cons_succ, List.set_cons_zero]
          intro gQ hgQ
          exact absurd hgQ (List.not_mem_nil)
        · simp only [putAll, Act.put, List.setIfInBounds_toArray, List.set_cons_succ, List.set_cons_zero]
          refine allG_cons (pure_load2 _ r5 _ _ rfl rfl (B5.out.blocks rfl) rfl) (by kernel_rfl) ?_
          refine allG_cons (pure_load2 _ r4 _ _ rfl rfl (B4.out.blocks rfl) rfl) (by kernel_rfl) ?_
          refine allG_cons (by refine pure_quiet fun aQ osQ dQ hgQ => ?_; have h1Q : aQ.eval (.tmp 3) = .pointer (some ⟨r3, 0, none⟩) := hgQ (.tmp 3) (by simp [Op.operands, Call.operands]); have hcQ : ∀ v, aQ.eval (.const v) = v := fun _ => rfl; generalize aQ.eval = rQ at h1Q hcQ; clear hgQ; simp [execOp, h1Q, hcQ, resolve, invoke, builtin, go_sem, *] <;> rfl) (by kernel_rfl) ?_
          refine allG_cons (pure_load1 _ r3 2 _ rfl rfl B3.out.lt B3.out.c2 rfl) (by kernel_rfl) ?_
          refine allG_cons (by refine pure_quiet fun aQ osQ dQ hgQ => ?_; have h1Q : aQ.eval (.tmp 48) = .int .i64 q := hgQ (.tmp 48) (by simp [Op.operands, Call.operands]); have hcQ : ∀ v, aQ.eval (.const v) = v := fun _ => rfl; generalize aQ.eval = rQ at h1Q hcQ; clear hgQ; simp [execOp, h1Q, hcQ, resolve, invoke, builtin, go_sem, *] <;> rfl) (by kernel_rfl) ?_
          refine allG_cons (pure_call _ _ _ _ rot_enters rfl rfl (fun os d => RQ.out _ (CT.out.below (below_plus (Below.refl _ _) os d)))) (by kernel_rfl) ?_
          refine allG_cons (by refine pure_quiet fun aQ osQ dQ hgQ => ?_; have h1Q : aQ.eval (.tmp 45) = .agg #[.int .i64 X, .int .i64 Y] := hgQ (.tmp 45) (by simp [Op.operands, Call.operands]); have h2Q : aQ.eval (.tmp 50) = .agg #[.int .i64 X, .int .i64 Y] := hgQ (.tmp 50) (by simp [Op.operands, Call.operands]); have hcQ : ∀ v, aQ.eval (.const v) = v := fun _ => rfl; generalize aQ.eval = rQ at h1Q h2Q hcQ; clear hgQ; simp [execOp, h1Q, h2Q, hcQ, resolve, invoke, builtin, go_sem, *] <;> rfl) (by kernel_rfl) ?_
          exact True.intro
        · intro osL dL
          simp only [putAll, Act.put, List.setIfInBounds_toArray, List.set_cons_succ, List.set_cons_zero]
          refine last_assign (.tmp 51) 2 (.bool true) rfl rfl rfl ?_
          simp only [Act.put, List.setIfInBounds_toArray, List.set_cons_succ, List.set_cons_zero]
          show Exit.then _ _ Exit.normal _ (plus W osL dL)
          go_wp2
          go_ret
          exact ⟨rfl, up_of_below (by first | exact HW.out | exact below_plus HW.out _ _)⟩
    · obtain ⟨i1, i2⟩ := ap0_not hV
      rw [i1, i2] at S5 A5
      have HV := Lib.hid hV
      clear i1 i2 hV CT
      go_wp2_with fail
      refine (A5.out _).mono ?_
      rintro e w1 ⟨rfl, os2, d2, rfl⟩
      go_wp2
      refine wp_forget (fun W => Hid (BoxF W (w.heap.size + os0.size) x y q) ∧ Hid (BoxP W (w.heap.size + os0.size + 1) px py) ∧ Hid (BoxP W (w.heap.size + os0.size + 1 + 1 + os2.size) 0 0) ∧ Hid (Below w.heap.size w W)) ⟨⟨by simp [go_sem], by simp [go_sem], by simp [go_sem], by simp [go_sem]⟩, ⟨by simp [go_sem], by simp [go_sem], by simp [go_sem]⟩, ⟨by simp [go_sem], by simp [go_sem], by simp [go_sem]⟩, show Below _ _ _ by repeat (first | with_reducible exact Below.refl _ _ | with_reducible apply below_alloc | with_reducible apply below_drw | with_reducible apply below_drew | with_reducible apply below_drewN | with_reducible apply below_plus | with_reducible apply below_set | (simp; done))⟩ ?_
      rintro W ⟨B3, B4, B5, HW⟩
      generalize w.heap.size + os0.size + 1 + 1 + os2.size = r5 at B5 ⊢
      generalize w.heap.size + os0.size + 1 = r4 at B4 ⊢
      generalize w.heap.size + os0.size = r3 at B3 ⊢
      refine wp_region_any (by kernel_rfl) ?_
      refine region_lastG [(19, .agg #[.int .i64 0, .int .i64 0]), (20, .pointer (some ⟨r3, 2, none⟩)), (21, .int .i64 q), (22, .agg #[.int .i64 0, .int .i64 0, .int .i64 q]), (23, .agg #[.int .i64 px, .int .i64 py]), (24, .agg #[.int .i64 0, .int .i64 0])] [] _ _ (by kernel_rfl) (by kernel_rfl) ?_ ?_ _ rfl ?_
      · simp only [putAll, Act.put, List.setIfInBounds_toArray, List.set_cons_succ, List.set_cons_zero]
        intro gQ hgQ
        exact absurd hgQ (List.not_mem_nil)
      · simp only [putAll, Act.put, List.setIfInBounds_toArray, List.set_cons_succ, List.set_cons_zero]
        refine allG_cons (pure_load2 _ r5 _ _ rfl rfl (B5.out.blocks rfl) rfl) (by kernel_rfl) ?_
        refine allG_cons (by refine pure_quiet fun aQ osQ dQ hgQ => ?_; have h1Q : aQ.eval (.tmp 3) = .pointer (some ⟨r3, 0, none⟩) := hgQ (.tmp 3) (by simp [Op.operands, Call.operands]); have hcQ : ∀ v, aQ.eval (.const v) = v := fun _ => rfl; generalize aQ.eval = rQ at h1Q hcQ; clear hgQ; simp [execOp, h1Q, hcQ, resolve, invoke, builtin, go_sem, *] <;> rfl) (by kernel_rfl) ?_
        refine allG_cons (pure_load1 _ r3 2 _ rfl rfl B3.out.lt B3.out.c2 rfl) (by kernel_rfl) ?_
        refine allG_cons (by refine pure_quiet fun aQ osQ dQ hgQ => ?_; have h1Q : aQ.eval (.tmp 21) = .int .i64 q := hgQ (.tmp 21) (by simp [Op.operands, Call.operands]); have hcQ : ∀ v, aQ.eval (.const v) = v := fun _ => rfl; generalize aQ.eval = rQ at h1Q hcQ; clear hgQ; simp [execOp, h1Q, hcQ, resolve, invoke, builtin, go_sem, *] <;> rfl) (by kernel_rfl) ?_
        refine allG_cons (pure_load2 _ r4 _ _ rfl rfl (B4.out.blocks rfl) rfl) (by kernel_rfl) ?_
        refine allG_cons (pure_call _ _ _ _ sapp_enters rfl rfl (fun os d => S5.out _)) (by kernel_rfl) ?_
        exact True.intro
      · intro osL dL
        simp only [putAll, Act.put, List.setIfInBounds_toArray, List.set_cons_succ, List.set_cons_zero]
        refine last_quiet2 25 (.bool false) (.tmp 19) (.tmp 24) _ _ rfl rfl rfl (fun ρ h1 h2 => by simp [execOp, h1, h2, go_sem]) ?_
        simp only [Act.put, List.setIfInBounds_toArray, List.set_cons_succ, List.set_cons_zero]
        show Exit.then _ _ Exit.normal _ (plus W osL dL)
        have D3 := (plus_cell (os := osL) (d := dL) r3 2 B3.out.lt).trans B3.out.c2
        have D40 := (plus_cell (os := osL) (d := dL) r4 0 B4.out.lt).trans B4.out.c0
        have D41 := (plus_cell (os := osL) (d := dL) r4 1 B4.out.lt).trans B4.out.c1
        have D50 := (plus_cell (os := osL) (d := dL) r5 0 B5.out.lt).trans B5.out.c0
        have D51 := (plus_cell (os := osL) (d := dL) r5 1 B5.out.lt).trans B5.out.c1
        have B3 := Lib.hid (B3.out.below (below_plus (Below.refl _ _) osL dL))
        have B4 := Lib.hid (B4.out.below (below_plus (Below.refl _ _) osL dL))
        have B5 := Lib.hid (B5.out.below (below_plus (Below.refl _ _) osL dL))
        have HW := Lib.hid (below_plus HW.out osL dL)
        have lt3 := B3.out.lt
        have lt4 := B4.out.lt
        have lt5 := B5.out.lt
        clear S5 A5
        generalize plus W osL dL = W2 at D3 D40 D41 D50 D51 B3 B4 B5 HW lt3 lt4 lt5 ⊢
        by_cases hqa : q < 0
        · go_wp2_with ((go_at_call 8; refine (alive_any _).mono ?_; rintro e w' ⟨rfl, rfl⟩))
          go_ret
          exact ⟨rfl, up_of_below (by first | exact HW.out | exact below_plus HW.out _ _)⟩
        · by_cases hqb : 3 < q
          · go_wp2_with ((go_at_call 8; refine (alive_any _).mono ?_; rintro e w' ⟨rfl, rfl⟩))
            go_ret
            exact ⟨rfl, up_of_below (by first | exact HW.out | exact below_plus HW.out _ _)⟩
          · have hp : ptB px py = false := by
              cases h : ptB px py with
              | false => rfl
              | true => exact absurd ⟨⟨by omega, by omega⟩, h⟩ HV.out
            have HP := Lib.hid (fun W => sPointValid_any px py W)
            rw [hp] at HP
            clear hp
            go_wp2_with fail
            refine (HP.out _).mono ?_
            rintro e w1 ⟨rfl, os3, d3, rfl⟩
            go_wp2_with ((go_at_call 8; refine (alive_any _).mono ?_; rintro e w' ⟨rfl, rfl⟩))
            go_ret
            exact ⟨rfl, up_of_below (by first | exact HW.out | exact below_plus HW.out _ _)⟩
  · go_enter Tryd.func3, Tryd.ntmps3
    go_wp2
    go_ret
    exact ⟨rfl, up_of_below (Below.refl _ _)⟩

end Go.Proofs.YtnanipehcikcjaaDoor
