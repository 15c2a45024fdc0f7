/-
  The walk of the law on repeated frames. No condition.
-/
import Derived.Test.YtnflmbmhncndfaaFrP
import Derived.Test.YtnflmbmhncndfaaFrDraw2
import Derived.Test.YtnflmbmhncndfaaLastG
import Derived.Shelf.Abstract
namespace Go.Proofs.Ytnflmbmhncndfaa
set_option linter.unusedSimpArgs false
open Go.RowKit

theorem srep_enters (args : Array Value) (w : World) : (callFunc 26 args).run Try.prog w = .ok (.enter 26 args) w := (enters_of Try.func26 (by kernel_rfl) rfl) args w
theorem rep_enters (args : Array Value) (w : World) : (callFunc 27 args).run Try.prog w = .ok (.enter 27 args) w := (enters_of Try.func27 (by kernel_rfl) rfl) args w
theorem comp_enters (args : Array Value) (w : World) : (callFunc 21 args).run Try.prog w = .ok (.enter 21 args) w := (enters_of Try.func21 (by kernel_rfl) rfl) args w

/-- A block that holds a frame. -/
structure BoxF (w : World) (r : Nat) (x y q : Int) : Prop where
  lt : r < w.heap.size
  c0 : w.cell? ⟨r, 0, none⟩ = some (.int .i64 x)
  c1 : w.cell? ⟨r, 1, none⟩ = some (.int .i64 y)
  c2 : w.cell? ⟨r, 2, none⟩ = some (.int .i64 q)
theorem BoxF.below {w w' : World} {r : Nat} {x y q : Int} (h : BoxF w r x y q) (hb : Below w.heap.size w w') : BoxF w' r x y q :=
  ⟨Nat.lt_of_lt_of_le h.lt hb.size, (hb.cell (p := ⟨r, 0, none⟩) h.lt).trans h.c0, (hb.cell (p := ⟨r, 1, none⟩) h.lt).trans h.c1, (hb.cell (p := ⟨r, 2, none⟩) h.lt).trans h.c2⟩
theorem BoxF.blocks {w w' : World} {r : Nat} {x y q : Int} (h : BoxF w r x y q) (hb : w'.heap = w.heap) : BoxF w' r x y q :=
  ⟨by rw [hb]; exact h.lt, (World.cell?_of_block (by rw [hb])).trans h.c0, (World.cell?_of_block (by rw [hb])).trans h.c1, (World.cell?_of_block (by rw [hb])).trans h.c2⟩
theorem pure_load3 {w0 : World} {A : Act} {o : Oper} (x : Operand) (r : Nat) (x0 x1 x2 : Int) (h : o.op = .load 25 x) (hx : A.eval x = .pointer (some ⟨r, 0, none⟩)) (hb : BoxF w0 r x0 x1 x2) (hv : gd A (o.dst.getD 0) = .agg #[.int .i64 x0, .int .i64 x1, .int .i64 x2]) : PureStep Try.prog w0 A o := by
  refine pure_quiet fun a os d hg => ?_
  have gx := (hg x (by simp [h, Op.operands])).trans hx
  rw [hv]
  obtain ⟨_, c0, c1, c2⟩ := hb.below (below_plus (Below.refl _ _) os d)
  generalize a.eval = ρ at gx
  generalize plus w0 os d = W at c0 c1 c2
  simp [execOp, h, gx, Instr.loadAt, go_sem, c0, c1, c2]
theorem pure_load1 {w0 : World} {A : Act} {o : Oper} (x : Operand) (r i : Nat) (x0 : Int) (h : o.op = .load 3 x) (hx : A.eval x = .pointer (some ⟨r, i, none⟩)) (hr : r < w0.heap.size) (hb : w0.cell? ⟨r, i, none⟩ = some (.int .i64 x0)) (hv : gd A (o.dst.getD 0) = .int .i64 x0) : PureStep Try.prog w0 A o := by
  refine pure_quiet fun a os d hg => ?_
  have gx := (hg x (by simp [h, Op.operands])).trans hx
  rw [hv]
  have c0 := (plus_cell (os := os) (d := d) r i hr).trans hb
  generalize a.eval = ρ at gx
  generalize plus w0 os d = W at c0
  simp [execOp, h, gx, Instr.loadAt, go_sem, c0]
theorem last_quiet2 {o : Oper} {a : Act} {w : World} {K : Act → World → Prop} {Q : Exit → Act → World → Prop} (d : Nat) (r : Value) (x y : Operand) (u v : Value) (hd : o.dst = some d) (hx : a.eval x = u) (hy : a.eval y = v) (hrun : ∀ ρ : Operand → Value, ρ x = u → ρ y = v → (execOp ρ o).run Try.prog w = .ok (.value r) w) (hk : K (a.put (some d) r) w) : o.wp Try.prog a w K Q := by
  rw [← hd] at hk
  unfold Oper.wp
  rw [hrun a.eval hx hy]
  exact hk
theorem last_assign {o : Oper} {a : Act} {w : World} {K : Act → World → Prop} {Q : Exit → Act → World → Prop} (x : Operand) (d : Nat) (v : Value) (h : o.op = .assign x) (hd : o.dst = some d) (hv : a.eval x = v) (hk : K (a.put (some d) v) w) : o.wp Try.prog a w K Q := by
  rw [← hd] at hk
  unfold Oper.wp
  generalize a.eval = ρ at hv
  simp [execOp, h, hv, go_sem]
  exact hk
theorem wp_forget {P : Program} {c : Code} {Q : Exit → Act → World → Prop} {a : Act} {w : World} (S : World → Prop) (h : S w) (hk : ∀ W, S W → c.wp P Q a W) : c.wp P Q a w := hk w h

set_option maxRecDepth 100000 in
set_option maxHeartbeats 4000000 in
theorem lawRepeatFrame_any (a : Option Addr) (n c : Nat) (w : World) (hb : Bytes w w.heap.size a n) (hnc : n ≤ c) (hcm : c ≤ maxLen) :
    Calls Try.prog 11 #[.slice a n c] w fun e w' => e = .returned (.bool true) ∧ Up w w' := by
  have hmm : c ≤ 9223372036854775807 := by unfold maxLen at hcm; omega
  by_cases hn : n ≤ 1048576
  · go_enter Try.func11, Try.ntmps11
    go_wp2_with (go_at_call 32; refine (drawRepeatFrame_any _ _ _ _ hb hnc hcm).mono ?_; rintro e w1 ⟨x, y, q, m, hF, hm0, hm1, rfl, os0, d0, rfl⟩)
    by_cases hA : frB x y q = true ∧ 0 ≤ m ∧ m ≤ 100
    · obtain ⟨hv, hA0, hA1⟩ := hA
      obtain ⟨⟨x1, x2⟩, ⟨y1, y2⟩, q1, q2⟩ := frB_t.1 hv
      have R0 : Hid (∀ W, Calls Try.prog 27 #[.agg #[.int .i64 x, .int .i64 y, .int .i64 q], .int .i64 0] W fun e w' => e = .returned (.agg #[.int .i64 0, .int .i64 0, .int .i64 0]) ∧ Up W w') := fun W => by
        have h := repeat_any x y q 0 W
        have e0 := rep_val hv (n := 0) (by omega) (by omega)
        rw [rX_zero, rY_zero, rQ_zero] at e0
        rwa [e0.1, e0.2.1, e0.2.2] at h
      have R1 : Hid (∀ W, Calls Try.prog 27 #[.agg #[.int .i64 x, .int .i64 y, .int .i64 q], .int .i64 1] W fun e w' => e = .returned (.agg #[.int .i64 x, .int .i64 y, .int .i64 q]) ∧ Up W w') := fun W => by
        have h := repeat_any x y q 1 W
        have e0 := rep_val hv (n := 1) (by omega) (by omega)
        have e1 := r_one hv
        rw [e1.1, e1.2.1, e1.2.2] at e0
        rwa [e0.1, e0.2.1, e0.2.2] at h
      have R2 : Hid (∀ W, Calls Try.prog 27 #[.agg #[.int .i64 x, .int .i64 y, .int .i64 q], .int .i64 2] W fun e w' => e = .returned (.agg #[.int .i64 (cmX x y q x y q), .int .i64 (cmY x y q x y q), .int .i64 (cmQ x y q x y q)]) ∧ Up W w') := fun W => by
        have h := repeat_any x y q 2 W
        have e0 := rep_val hv (n := 2) (by omega) (by omega)
        have e1 := r_two hv
        rw [e1.1, e1.2.1, e1.2.2] at e0
        rwa [e0.1, e0.2.1, e0.2.2] at h
      have R4 : Hid (absF x < 1000 → absF y < 1000 → q % 2 ≠ 0 → ∀ W, Calls Try.prog 27 #[.agg #[.int .i64 x, .int .i64 y, .int .i64 q], .int .i64 4] W fun e w' => e = .returned (.agg #[.int .i64 0, .int .i64 0, .int .i64 0]) ∧ Up W w') := fun g1 g2 g3 W => by
        have h := repeat_any x y q 4 W
        have e0 := rep_val hv (n := 4) (by omega) (by omega)
        have e1 := r_four hv g1 g2 g3
        rw [e1.1, e1.2.1, e1.2.2] at e0
        rwa [e0.1, e0.2.1, e0.2.2] at h
      have RC := Lib.hid (fun W => compose_any x y q x y q W)
      generalize cmX x y q x y q = c1 at R2 RC
      generalize cmY x y q x y q = c2 at R2 RC
      generalize cmQ x y q x y q = c3 at R2 RC
      have ht : Hid (q.tmod 2 = q % 2) := Int.tmod_eq_emod_of_nonneg q1
      go_wp2_with fail
      refine (repeat_any _ _ _ _ _).mono ?_
      rintro e w1 ⟨rfl, os2, d2, rfl⟩
      have S5 := Lib.hid (fun W => sRepeat_any x y q m W)
      generalize repX x y q m = X at S5
      generalize repY x y q m = Y at S5
      generalize repQ x y q m = Q at S5
      go_wp2
      refine wp_forget (fun W => Hid (BoxF W (w.heap.size + os0.size) x y q) ∧ Hid (BoxF W (w.heap.size + os0.size + 1 + os2.size) X Y Q) ∧ Hid (Below w.heap.size w W)) ⟨⟨by simp [go_sem], by simp [go_sem], by simp [go_sem], by simp [go_sem]⟩, ⟨by simp [go_sem], by simp [go_sem], by simp [go_sem], by simp [go_sem]⟩, show Below _ _ _ by repeat (first | with_reducible exact Below.refl _ _ | with_reducible apply below_alloc | with_reducible apply below_drw | with_reducible apply below_drew | with_reducible apply below_drewN | with_reducible apply below_plus | with_reducible apply below_set | (simp; done))⟩ ?_
      rintro W ⟨B1, B2, HW⟩
      generalize w.heap.size + os0.size = r1 at B1 B2 ⊢
      generalize r1 + 1 + os2.size = r2 at B2 ⊢
      refine wp_region_any (by kernel_rfl) ?_
      refine region_lastG [(18, .agg #[.int .i64 X, .int .i64 Y, .int .i64 Q]), (19, .agg #[.int .i64 x, .int .i64 y, .int .i64 q]), (20, .int .i64 m), (21, .agg #[.int .i64 X, .int .i64 Y, .int .i64 Q])] [] _ _ (by kernel_rfl) (by kernel_rfl) ?_ ?_ _ rfl ?_
      · simp only [putAll, Act.put, List.setIfInBounds_toArray, List.set_cons_succ, List.set_cons_zero]
        intro gQ hgQ
        exact absurd hgQ (List.not_mem_nil)
      · simp only [putAll, Act.put, List.setIfInBounds_toArray, List.set_cons_succ, List.set_cons_zero]
        refine allG_cons (pure_load3 _ r2 _ _ _ rfl rfl (B2.out.blocks rfl) rfl) (by kernel_rfl) ?_
        refine allG_cons (pure_load3 _ r1 _ _ _ rfl rfl (B1.out.blocks rfl) rfl) (by kernel_rfl) ?_
        refine allG_cons (pure_move _ (.inl rfl) rfl) (by kernel_rfl) ?_
        refine allG_cons (pure_call _ _ _ _ srep_enters rfl rfl (fun os d => S5.out _)) (by kernel_rfl) ?_
        exact True.intro
      · intro osL dL
        simp only [putAll, Act.put, List.setIfInBounds_toArray, List.set_cons_succ, List.set_cons_zero]
        refine last_quiet2 22 (.bool false) (.tmp 18) (.tmp 21) _ _ rfl rfl rfl (fun ρ h1 h2 => by simp [execOp, h1, h2, go_sem]) ?_
        simp only [Act.put, List.setIfInBounds_toArray, List.set_cons_succ, List.set_cons_zero]
        show Exit.then _ _ Exit.normal _ (plus W osL dL)
        have C0 := (plus_cell (os := osL) (d := dL) r1 0 B1.out.lt).trans B1.out.c0
        have C1 := (plus_cell (os := osL) (d := dL) r1 1 B1.out.lt).trans B1.out.c1
        have C2 := (plus_cell (os := osL) (d := dL) r1 2 B1.out.lt).trans B1.out.c2
        have B1 := Lib.hid (B1.out.below (below_plus (Below.refl _ _) osL dL))
        have HW := Lib.hid (below_plus HW.out osL dL)
        have ltr := B1.out.lt
        clear B2 S5
        generalize plus W osL dL = W2 at C0 C1 C2 B1 HW ltr ⊢
        by_cases hx : absF x < 1000
        · by_cases hy : absF y < 1000
          · by_cases hq : q % 2 = 0
            · have hq' := Lib.hid (show (q.tmod 2 == 0) = true by rw [ht.out, hq]; rfl)
              clear hq R4
              go_wp2_with (first | (go_at_call 13; refine (sFrameValid_any _ _ _ _).mono ?_; rintro e w1 ⟨rfl, os, d, rfl⟩) | (go_at_call 33; refine (abs_any _ _ (by omega) (by omega)).mono ?_; rintro e w' ⟨rfl, rfl⟩))
              refine wp_forget (fun W => Hid (BoxF W r1 x y q) ∧ Hid (Below w.heap.size w W)) ⟨B1.out.below (by first | exact Below.refl _ _ | (repeat (first | with_reducible exact Below.refl _ _ | with_reducible apply below_alloc | with_reducible apply below_drw | with_reducible apply below_drew | with_reducible apply below_drewN | with_reducible apply below_plus | with_reducible apply below_set | (simp; done)))), show Below _ _ _ by first | exact HW.out | exact below_plus HW.out _ _⟩ ?_
              clear B1 HW C0 C1 C2 ltr
              rintro W3 ⟨B1, HW⟩
              have hq2 := hq'.out
              refine wp_region_any (by kernel_rfl) ?_
              refine region_lastG [(50, .bool true), (51, .bool false), (52, .bool false), (53, .pointer (some ⟨r1, 2, none⟩)), (54, .int .i64 q), (55, .int .i64 (q.tmod 2)), (56, .bool true), (57, .bool true), (58, .bool true), (63, .bool true), (64, .bool true), (65, .agg #[.int .i64 x, .int .i64 y, .int .i64 q]), (66, .agg #[.int .i64 c1, .int .i64 c2, .int .i64 c3]), (67, .agg #[.int .i64 x, .int .i64 y, .int .i64 q]), (68, .agg #[.int .i64 x, .int .i64 y, .int .i64 q]), (69, .agg #[.int .i64 c1, .int .i64 c2, .int .i64 c3]), (70, .bool true), (71, .bool true), (72, .bool true), (73, .agg #[.int .i64 x, .int .i64 y, .int .i64 q]), (74, .agg #[.int .i64 x, .int .i64 y, .int .i64 q]), (75, .agg #[.int .i64 x, .int .i64 y, .int .i64 q]), (76, .bool true), (77, .bool true), (78, .bool true), (79, .agg #[.int .i64 x, .int .i64 y, .int .i64 q]), (80, .agg #[.int .i64 0, .int .i64 0, .int .i64 0]), (81, .agg #[.int .i64 0, .int .i64 0, .int .i64 0]), (82, .bool true), (83, .bool true)] [(52, false), (58, true), (64, true), (72, true), (78, true)] _ _ (by kernel_rfl) (by kernel_rfl) ?_ ?_ _ rfl ?_
              · simp only [putAll, Act.put, List.setIfInBounds_toArray, List.set_cons_succ, List.set_cons_zero]
                intro gQ hgQ
                simp only [List.mem_cons, List.not_mem_nil, or_false] at hgQ
                rcases hgQ with rfl | rfl | rfl | rfl | rfl
                all_goals rfl
              · simp only [putAll, Act.put, List.setIfInBounds_toArray, List.set_cons_succ, List.set_cons_zero]
                refine allG_cons (pure_move _ (.inl rfl) rfl) (by kernel_rfl) ?_
                refine allG_cons (by refine pure_quiet fun aQ osQ dQ hgQ => ?_; have h1Q : aQ.eval (.tmp 50) = .bool true := hgQ (.tmp 50) (by simp [Op.operands, Call.operands]); have hcQ : ∀ v, aQ.eval (.const v) = v := fun _ => rfl; generalize aQ.eval = rQ at h1Q hcQ; clear hgQ; simp [execOp, h1Q, hcQ, resolve, invoke, builtin, go_sem, *] <;> rfl) (by kernel_rfl) ?_
                refine allG_cons (pure_move _ (.inl rfl) rfl) (by kernel_rfl) ?_
                refine allG_cons (by refine pure_quiet fun aQ osQ dQ hgQ => ?_; have h1Q : aQ.eval (.tmp 3) = .pointer (some ⟨r1, 0, none⟩) := hgQ (.tmp 3) (by simp [Op.operands, Call.operands]); have hcQ : ∀ v, aQ.eval (.const v) = v := fun _ => rfl; generalize aQ.eval = rQ at h1Q hcQ; clear hgQ; simp [execOp, h1Q, hcQ, resolve, invoke, builtin, go_sem, *] <;> rfl) (by kernel_rfl) ?_
                refine allG_cons (pure_load1 _ r1 2 _ rfl rfl B1.out.lt B1.out.c2 rfl) (by kernel_rfl) ?_
                refine allG_cons (by refine pure_quiet fun aQ osQ dQ hgQ => ?_; have h1Q : aQ.eval (.tmp 54) = .int .i64 q := hgQ (.tmp 54) (by simp [Op.operands, Call.operands]); have hcQ : ∀ v, aQ.eval (.const v) = v := fun _ => rfl; generalize aQ.eval = rQ at h1Q hcQ; clear hgQ; simp [execOp, h1Q, hcQ, resolve, invoke, builtin, go_sem, *] <;> rfl) (by kernel_rfl) ?_
                refine allG_cons (by refine pure_quiet fun aQ osQ dQ hgQ => ?_; have h1Q : aQ.eval (.tmp 55) = .int .i64 (q.tmod 2) := hgQ (.tmp 55) (by simp [Op.operands, Call.operands]); have hcQ : ∀ v, aQ.eval (.const v) = v := fun _ => rfl; generalize aQ.eval = rQ at h1Q hcQ; clear hgQ; simp [execOp, h1Q, hcQ, resolve, invoke, builtin, go_sem, *] <;> rfl) (by kernel_rfl) ?_
                refine allG_cons (by refine pure_quiet fun aQ osQ dQ hgQ => ?_; have h1Q : aQ.eval (.tmp 52) = .bool false := hgQ (.tmp 52) (by simp [Op.operands, Call.operands]); have h2Q : aQ.eval (.tmp 56) = .bool true := hgQ (.tmp 56) (by simp [Op.operands, Call.operands]); have hcQ : ∀ v, aQ.eval (.const v) = v := fun _ => rfl; generalize aQ.eval = rQ at h1Q h2Q hcQ; clear hgQ; simp [execOp, h1Q, h2Q, hcQ, resolve, invoke, builtin, go_sem, *] <;> rfl) (by kernel_rfl) ?_
                refine allG_cons (pure_move _ (.inl rfl) rfl) (by kernel_rfl) ?_
                refine allG_skip (by kernel_rfl) rfl ?_
                refine allG_skip (by kernel_rfl) rfl ?_
                refine allG_skip (by kernel_rfl) rfl ?_
                refine allG_skip (by kernel_rfl) rfl ?_
                refine allG_cons (by refine pure_quiet fun aQ osQ dQ hgQ => ?_; have h1Q : aQ.eval (.tmp 58) = .bool true := hgQ (.tmp 58) (by simp [Op.operands, Call.operands]); have hcQ : ∀ v, aQ.eval (.const v) = v := fun _ => rfl; generalize aQ.eval = rQ at h1Q hcQ; clear hgQ; simp [execOp, h1Q, hcQ, resolve, invoke, builtin, go_sem, *] <;> rfl) (by kernel_rfl) ?_
                refine allG_cons (pure_move _ (.inl rfl) rfl) (by kernel_rfl) ?_
                refine allG_cons (pure_load3 _ r1 _ _ _ rfl rfl (B1.out.blocks rfl) rfl) (by kernel_rfl) ?_
                refine allG_cons (pure_call _ _ _ _ rep_enters rfl rfl (fun os d => R2.out _)) (by kernel_rfl) ?_
                refine allG_cons (pure_load3 _ r1 _ _ _ rfl rfl (B1.out.blocks rfl) rfl) (by kernel_rfl) ?_
                refine allG_cons (pure_load3 _ r1 _ _ _ rfl rfl (B1.out.blocks rfl) rfl) (by kernel_rfl) ?_
                refine allG_cons (pure_call _ _ _ _ comp_enters rfl rfl (fun os d => RC.out _)) (by kernel_rfl) ?_
                refine allG_cons (by refine pure_quiet fun aQ osQ dQ hgQ => ?_; have h1Q : aQ.eval (.tmp 66) = .agg #[.int .i64 c1, .int .i64 c2, .int .i64 c3] := hgQ (.tmp 66) (by simp [Op.operands, Call.operands]); have h2Q : aQ.eval (.tmp 69) = .agg #[.int .i64 c1, .int .i64 c2, .int .i64 c3] := hgQ (.tmp 69) (by simp [Op.operands, Call.operands]); have hcQ : ∀ v, aQ.eval (.const v) = v := fun _ => rfl; generalize aQ.eval = rQ at h1Q h2Q hcQ; clear hgQ; simp [execOp, h1Q, h2Q, hcQ, resolve, invoke, builtin, go_sem, *] <;> rfl) (by kernel_rfl) ?_
                refine allG_cons (by refine pure_quiet fun aQ osQ dQ hgQ => ?_; have h1Q : aQ.eval (.tmp 64) = .bool true := hgQ (.tmp 64) (by simp [Op.operands, Call.operands]); have h2Q : aQ.eval (.tmp 70) = .bool true := hgQ (.tmp 70) (by simp [Op.operands, Call.operands]); have hcQ : ∀ v, aQ.eval (.const v) = v := fun _ => rfl; generalize aQ.eval = rQ at h1Q h2Q hcQ; clear hgQ; simp [execOp, h1Q, h2Q, hcQ, resolve, invoke, builtin, go_sem, *] <;> rfl) (by kernel_rfl) ?_
                refine allG_cons (pure_move _ (.inl rfl) rfl) (by kernel_rfl) ?_
                refine allG_cons (pure_load3 _ r1 _ _ _ rfl rfl (B1.out.blocks rfl) rfl) (by kernel_rfl) ?_
                refine allG_cons (pure_call _ _ _ _ rep_enters rfl rfl (fun os d => R1.out _)) (by kernel_rfl) ?_
                refine allG_cons (pure_load3 _ r1 _ _ _ rfl rfl (B1.out.blocks rfl) rfl) (by kernel_rfl) ?_
                refine allG_cons (by refine pure_quiet fun aQ osQ dQ hgQ => ?_; have h1Q : aQ.eval (.tmp 74) = .agg #[.int .i64 x, .int .i64 y, .int .i64 q] := hgQ (.tmp 74) (by simp [Op.operands, Call.operands]); have h2Q : aQ.eval (.tmp 75) = .agg #[.int .i64 x, .int .i64 y, .int .i64 q] := hgQ (.tmp 75) (by simp [Op.operands, Call.operands]); have hcQ : ∀ v, aQ.eval (.const v) = v := fun _ => rfl; generalize aQ.eval = rQ at h1Q h2Q hcQ; clear hgQ; simp [execOp, h1Q, h2Q, hcQ, resolve, invoke, builtin, go_sem, *] <;> rfl) (by kernel_rfl) ?_
                refine allG_cons (by refine pure_quiet fun aQ osQ dQ hgQ => ?_; have h1Q : aQ.eval (.tmp 72) = .bool true := hgQ (.tmp 72) (by simp [Op.operands, Call.operands]); have h2Q : aQ.eval (.tmp 76) = .bool true := hgQ (.tmp 76) (by simp [Op.operands, Call.operands]); have hcQ : ∀ v, aQ.eval (.const v) = v := fun _ => rfl; generalize aQ.eval = rQ at h1Q h2Q hcQ; clear hgQ; simp [execOp, h1Q, h2Q, hcQ, resolve, invoke, builtin, go_sem, *] <;> rfl) (by kernel_rfl) ?_
                refine allG_cons (pure_move _ (.inl rfl) rfl) (by kernel_rfl) ?_
                refine allG_cons (pure_load3 _ r1 _ _ _ rfl rfl (B1.out.blocks rfl) rfl) (by kernel_rfl) ?_
                refine allG_cons (pure_call _ _ _ _ rep_enters rfl rfl (fun os d => R0.out _)) (by kernel_rfl) ?_
                refine allG_cons (by refine pure_quiet fun aQ osQ dQ hgQ => ?_; have hcQ : ∀ v, aQ.eval (.const v) = v := fun _ => rfl; generalize aQ.eval = rQ at hcQ; clear hgQ; simp [execOp, hcQ, resolve, invoke, builtin, go_sem, *] <;> rfl) (by kernel_rfl) ?_
                refine allG_cons (by refine pure_quiet fun aQ osQ dQ hgQ => ?_; have h1Q : aQ.eval (.tmp 80) = .agg #[.int .i64 0, .int .i64 0, .int .i64 0] := hgQ (.tmp 80) (by simp [Op.operands, Call.operands]); have h2Q : aQ.eval (.tmp 81) = .agg #[.int .i64 0, .int .i64 0, .int .i64 0] := hgQ (.tmp 81) (by simp [Op.operands, Call.operands]); have hcQ : ∀ v, aQ.eval (.const v) = v := fun _ => rfl; generalize aQ.eval = rQ at h1Q h2Q hcQ; clear hgQ; simp [execOp, h1Q, h2Q, hcQ, resolve, invoke, builtin, go_sem, *] <;> rfl) (by kernel_rfl) ?_
                refine allG_cons (by refine pure_quiet fun aQ osQ dQ hgQ => ?_; have h1Q : aQ.eval (.tmp 78) = .bool true := hgQ (.tmp 78) (by simp [Op.operands, Call.operands]); have h2Q : aQ.eval (.tmp 82) = .bool true := hgQ (.tmp 82) (by simp [Op.operands, Call.operands]); have hcQ : ∀ v, aQ.eval (.const v) = v := fun _ => rfl; generalize aQ.eval = rQ at h1Q h2Q hcQ; clear hgQ; simp [execOp, h1Q, h2Q, hcQ, resolve, invoke, builtin, go_sem, *] <;> rfl) (by kernel_rfl) ?_
                exact True.intro
              · intro osL dL
                simp only [putAll, Act.put, List.setIfInBounds_toArray, List.set_cons_succ, List.set_cons_zero]
                refine last_assign (.tmp 83) 2 (.bool true) rfl rfl rfl ?_
                simp only [Act.put, List.setIfInBounds_toArray, List.set_cons_succ, List.set_cons_zero]
                show Exit.then _ _ Exit.normal _ (plus W3 osL dL)
                go_wp2
                go_ret
                exact ⟨rfl, up_of_below (below_plus HW.out _ _)⟩
            · have hq' := Lib.hid (show (q.tmod 2 == 0) = false by rw [ht.out]; simpa using hq)
              have R4 := Lib.hid (R4.out hx hy hq)
              clear hq
              go_wp2_with (first | (go_at_call 13; refine (sFrameValid_any _ _ _ _).mono ?_; rintro e w1 ⟨rfl, os, d, rfl⟩) | (go_at_call 33; refine (abs_any _ _ (by omega) (by omega)).mono ?_; rintro e w' ⟨rfl, rfl⟩))
              refine wp_forget (fun W => Hid (BoxF W r1 x y q) ∧ Hid (Below w.heap.size w W)) ⟨B1.out.below (by first | exact Below.refl _ _ | (repeat (first | with_reducible exact Below.refl _ _ | with_reducible apply below_alloc | with_reducible apply below_drw | with_reducible apply below_drew | with_reducible apply below_drewN | with_reducible apply below_plus | with_reducible apply below_set | (simp; done)))), show Below _ _ _ by first | exact HW.out | exact below_plus HW.out _ _⟩ ?_
              clear B1 HW C0 C1 C2 ltr
              rintro W3 ⟨B1, HW⟩
              have hq2 := hq'.out
              refine wp_region_any (by kernel_rfl) ?_
              refine region_lastG [(50, .bool true), (51, .bool false), (52, .bool false), (53, .pointer (some ⟨r1, 2, none⟩)), (54, .int .i64 q), (55, .int .i64 (q.tmod 2)), (56, .bool false), (57, .bool false), (58, .bool false), (59, .agg #[.int .i64 x, .int .i64 y, .int .i64 q]), (60, .agg #[.int .i64 0, .int .i64 0, .int .i64 0]), (61, .agg #[.int .i64 0, .int .i64 0, .int .i64 0]), (62, .bool true), (63, .bool true), (64, .bool true), (65, .agg #[.int .i64 x, .int .i64 y, .int .i64 q]), (66, .agg #[.int .i64 c1, .int .i64 c2, .int .i64 c3]), (67, .agg #[.int .i64 x, .int .i64 y, .int .i64 q]), (68, .agg #[.int .i64 x, .int .i64 y, .int .i64 q]), (69, .agg #[.int .i64 c1, .int .i64 c2, .int .i64 c3]), (70, .bool true), (71, .bool true), (72, .bool true), (73, .agg #[.int .i64 x, .int .i64 y, .int .i64 q]), (74, .agg #[.int .i64 x, .int .i64 y, .int .i64 q]), (75, .agg #[.int .i64 x, .int .i64 y, .int .i64 q]), (76, .bool true), (77, .bool true), (78, .bool true), (79, .agg #[.int .i64 x, .int .i64 y, .int .i64 q]), (80, .agg #[.int .i64 0, .int .i64 0, .int .i64 0]), (81, .agg #[.int .i64 0, .int .i64 0, .int .i64 0]), (82, .bool true), (83, .bool true)] [(52, false), (58, false), (64, true), (72, true), (78, true)] _ _ (by kernel_rfl) (by kernel_rfl) ?_ ?_ _ rfl ?_
              · simp only [putAll, Act.put, List.setIfInBounds_toArray, List.set_cons_succ, List.set_cons_zero]
                intro gQ hgQ
                simp only [List.mem_cons, List.not_mem_nil, or_false] at hgQ
                rcases hgQ with rfl | rfl | rfl | rfl | rfl
                all_goals rfl
              · simp only [putAll, Act.put, List.setIfInBounds_toArray, List.set_cons_succ, List.set_cons_zero]
                refine allG_cons (pure_move _ (.inl rfl) rfl) (by kernel_rfl) ?_
                refine allG_cons (by refine pure_quiet fun aQ osQ dQ hgQ => ?_; have h1Q : aQ.eval (.tmp 50) = .bool true := hgQ (.tmp 50) (by simp [Op.operands, Call.operands]); have hcQ : ∀ v, aQ.eval (.const v) = v := fun _ => rfl; generalize aQ.eval = rQ at h1Q hcQ; clear hgQ; simp [execOp, h1Q, hcQ, resolve, invoke, builtin, go_sem, *] <;> rfl) (by kernel_rfl) ?_
                refine allG_cons (pure_move _ (.inl rfl) rfl) (by kernel_rfl) ?_
                refine allG_cons (by refine pure_quiet fun aQ osQ dQ hgQ => ?_; have h1Q : aQ.eval (.tmp 3) = .pointer (some ⟨r1, 0, none⟩) := hgQ (.tmp 3) (by simp [Op.operands, Call.operands]); have hcQ : ∀ v, aQ.eval (.const v) = v := fun _ => rfl; generalize aQ.eval = rQ at h1Q hcQ; clear hgQ; simp [execOp, h1Q, hcQ, resolve, invoke, builtin, go_sem, *] <;> rfl) (by kernel_rfl) ?_
                refine allG_cons (pure_load1 _ r1 2 _ rfl rfl B1.out.lt B1.out.c2 rfl) (by kernel_rfl) ?_
                refine allG_cons (by refine pure_quiet fun aQ osQ dQ hgQ => ?_; have h1Q : aQ.eval (.tmp 54) = .int .i64 q := hgQ (.tmp 54) (by simp [Op.operands, Call.operands]); have hcQ : ∀ v, aQ.eval (.const v) = v := fun _ => rfl; generalize aQ.eval = rQ at h1Q hcQ; clear hgQ; simp [execOp, h1Q, hcQ, resolve, invoke, builtin, go_sem, *] <;> rfl) (by kernel_rfl) ?_
                refine allG_cons (by refine pure_quiet fun aQ osQ dQ hgQ => ?_; have h1Q : aQ.eval (.tmp 55) = .int .i64 (q.tmod 2) := hgQ (.tmp 55) (by simp [Op.operands, Call.operands]); have hcQ : ∀ v, aQ.eval (.const v) = v := fun _ => rfl; generalize aQ.eval = rQ at h1Q hcQ; clear hgQ; simp [execOp, h1Q, hcQ, resolve, invoke, builtin, go_sem, *] <;> rfl) (by kernel_rfl) ?_
                refine allG_cons (by refine pure_quiet fun aQ osQ dQ hgQ => ?_; have h1Q : aQ.eval (.tmp 52) = .bool false := hgQ (.tmp 52) (by simp [Op.operands, Call.operands]); have h2Q : aQ.eval (.tmp 56) = .bool false := hgQ (.tmp 56) (by simp [Op.operands, Call.operands]); have hcQ : ∀ v, aQ.eval (.const v) = v := fun _ => rfl; generalize aQ.eval = rQ at h1Q h2Q hcQ; clear hgQ; simp [execOp, h1Q, h2Q, hcQ, resolve, invoke, builtin, go_sem, *] <;> rfl) (by kernel_rfl) ?_
                refine allG_cons (pure_move _ (.inl rfl) rfl) (by kernel_rfl) ?_
                refine allG_cons (pure_load3 _ r1 _ _ _ rfl rfl (B1.out.blocks rfl) rfl) (by kernel_rfl) ?_
                refine allG_cons (pure_call _ _ _ _ rep_enters rfl rfl (fun os d => R4.out _)) (by kernel_rfl) ?_
                refine allG_cons (by refine pure_quiet fun aQ osQ dQ hgQ => ?_; have hcQ : ∀ v, aQ.eval (.const v) = v := fun _ => rfl; generalize aQ.eval = rQ at hcQ; clear hgQ; simp [execOp, hcQ, resolve, invoke, builtin, go_sem, *] <;> rfl) (by kernel_rfl) ?_
                refine allG_cons (by refine pure_quiet fun aQ osQ dQ hgQ => ?_; have h1Q : aQ.eval (.tmp 60) = .agg #[.int .i64 0, .int .i64 0, .int .i64 0] := hgQ (.tmp 60) (by simp [Op.operands, Call.operands]); have h2Q : aQ.eval (.tmp 61) = .agg #[.int .i64 0, .int .i64 0, .int .i64 0] := hgQ (.tmp 61) (by simp [Op.operands, Call.operands]); have hcQ : ∀ v, aQ.eval (.const v) = v := fun _ => rfl; generalize aQ.eval = rQ at h1Q h2Q hcQ; clear hgQ; simp [execOp, h1Q, h2Q, hcQ, resolve, invoke, builtin, go_sem, *] <;> rfl) (by kernel_rfl) ?_
                refine allG_cons (by refine pure_quiet fun aQ osQ dQ hgQ => ?_; have h1Q : aQ.eval (.tmp 58) = .bool false := hgQ (.tmp 58) (by simp [Op.operands, Call.operands]); have h2Q : aQ.eval (.tmp 62) = .bool true := hgQ (.tmp 62) (by simp [Op.operands, Call.operands]); have hcQ : ∀ v, aQ.eval (.const v) = v := fun _ => rfl; generalize aQ.eval = rQ at h1Q h2Q hcQ; clear hgQ; simp [execOp, h1Q, h2Q, hcQ, resolve, invoke, builtin, go_sem, *] <;> rfl) (by kernel_rfl) ?_
                refine allG_cons (pure_move _ (.inl rfl) rfl) (by kernel_rfl) ?_
                refine allG_cons (pure_load3 _ r1 _ _ _ rfl rfl (B1.out.blocks rfl) rfl) (by kernel_rfl) ?_
                refine allG_cons (pure_call _ _ _ _ rep_enters rfl rfl (fun os d => R2.out _)) (by kernel_rfl) ?_
                refine allG_cons (pure_load3 _ r1 _ _ _ rfl rfl (B1.out.blocks rfl) rfl) (by kernel_rfl) ?_
                refine allG_cons (pure_load3 _ r1 _ _ _ rfl rfl (B1.out.blocks rfl) rfl) (by kernel_rfl) ?_
                refine allG_cons (pure_call _ _ _ _ comp_enters rfl rfl (fun os d => RC.out _)) (by kernel_rfl) ?_
                refine allG_cons (by refine pure_quiet fun aQ osQ dQ hgQ => ?_; have h1Q : aQ.eval (.tmp 66) = .agg #[.int .i64 c1, .int .i64 c2, .int .i64 c3] := hgQ (.tmp 66) (by simp [Op.operands, Call.operands]); have h2Q : aQ.eval (.tmp 69) = .agg #[.int .i64 c1, .int .i64 c2, .int .i64 c3] := hgQ (.tmp 69) (by simp [Op.operands, Call.operands]); have hcQ : ∀ v, aQ.eval (.const v) = v := fun _ => rfl; generalize aQ.eval = rQ at h1Q h2Q hcQ; clear hgQ; simp [execOp, h1Q, h2Q, hcQ, resolve, invoke, builtin, go_sem, *] <;> rfl) (by kernel_rfl) ?_
                refine allG_cons (by refine pure_quiet fun aQ osQ dQ hgQ => ?_; have h1Q : aQ.eval (.tmp 64) = .bool true := hgQ (.tmp 64) (by simp [Op.operands, Call.operands]); have h2Q : aQ.eval (.tmp 70) = .bool true := hgQ (.tmp 70) (by simp [Op.operands, Call.operands]); have hcQ : ∀ v, aQ.eval (.const v) = v := fun _ => rfl; generalize aQ.eval = rQ at h1Q h2Q hcQ; clear hgQ; simp [execOp, h1Q, h2Q, hcQ, resolve, invoke, builtin, go_sem, *] <;> rfl) (by kernel_rfl) ?_
                refine allG_cons (pure_move _ (.inl rfl) rfl) (by kernel_rfl) ?_
                refine allG_cons (pure_load3 _ r1 _ _ _ rfl rfl (B1.out.blocks rfl) rfl) (by kernel_rfl) ?_
                refine allG_cons (pure_call _ _ _ _ rep_enters rfl rfl (fun os d => R1.out _)) (by kernel_rfl) ?_
                refine allG_cons (pure_load3 _ r1 _ _ _ rfl rfl (B1.out.blocks rfl) rfl) (by kernel_rfl) ?_
                refine allG_cons (by refine pure_quiet fun aQ osQ dQ hgQ => ?_; have h1Q : aQ.eval (.tmp 74) = .agg #[.int .i64 x, .int .i64 y, .int .i64 q] := hgQ (.tmp 74) (by simp [Op.operands, Call.operands]); have h2Q : aQ.eval (.tmp 75) = .agg #[.int .i64 x, .int .i64 y, .int .i64 q] := hgQ (.tmp 75) (by simp [Op.operands, Call.operands]); have hcQ : ∀ v, aQ.eval (.const v) = v := fun _ => rfl; generalize aQ.eval = rQ at h1Q h2Q hcQ; clear hgQ; simp [execOp, h1Q, h2Q, hcQ, resolve, invoke, builtin, go_sem, *] <;> rfl) (by kernel_rfl) ?_
                refine allG_cons (by refine pure_quiet fun aQ osQ dQ hgQ => ?_; have h1Q : aQ.eval (.tmp 72) = .bool true := hgQ (.tmp 72) (by simp [Op.operands, Call.operands]); have h2Q : aQ.eval (.tmp 76) = .bool true := hgQ (.tmp 76) (by simp [Op.operands, Call.operands]); have hcQ : ∀ v, aQ.eval (.const v) = v := fun _ => rfl; generalize aQ.eval = rQ at h1Q h2Q hcQ; clear hgQ; simp [execOp, h1Q, h2Q, hcQ, resolve, invoke, builtin, go_sem, *] <;> rfl) (by kernel_rfl) ?_
                refine allG_cons (pure_move _ (.inl rfl) rfl) (by kernel_rfl) ?_
                refine allG_cons (pure_load3 _ r1 _ _ _ rfl rfl (B1.out.blocks rfl) rfl) (by kernel_rfl) ?_
                refine allG_cons (pure_call _ _ _ _ rep_enters rfl rfl (fun os d => R0.out _)) (by kernel_rfl) ?_
                refine allG_cons (by refine pure_quiet fun aQ osQ dQ hgQ => ?_; have hcQ : ∀ v, aQ.eval (.const v) = v := fun _ => rfl; generalize aQ.eval = rQ at hcQ; clear hgQ; simp [execOp, hcQ, resolve, invoke, builtin, go_sem, *] <;> rfl) (by kernel_rfl) ?_
                refine allG_cons (by refine pure_quiet fun aQ osQ dQ hgQ => ?_; have h1Q : aQ.eval (.tmp 80) = .agg #[.int .i64 0, .int .i64 0, .int .i64 0] := hgQ (.tmp 80) (by simp [Op.operands, Call.operands]); have h2Q : aQ.eval (.tmp 81) = .agg #[.int .i64 0, .int .i64 0, .int .i64 0] := hgQ (.tmp 81) (by simp [Op.operands, Call.operands]); have hcQ : ∀ v, aQ.eval (.const v) = v := fun _ => rfl; generalize aQ.eval = rQ at h1Q h2Q hcQ; clear hgQ; simp [execOp, h1Q, h2Q, hcQ, resolve, invoke, builtin, go_sem, *] <;> rfl) (by kernel_rfl) ?_
                refine allG_cons (by refine pure_quiet fun aQ osQ dQ hgQ => ?_; have h1Q : aQ.eval (.tmp 78) = .bool true := hgQ (.tmp 78) (by simp [Op.operands, Call.operands]); have h2Q : aQ.eval (.tmp 82) = .bool true := hgQ (.tmp 82) (by simp [Op.operands, Call.operands]); have hcQ : ∀ v, aQ.eval (.const v) = v := fun _ => rfl; generalize aQ.eval = rQ at h1Q h2Q hcQ; clear hgQ; simp [execOp, h1Q, h2Q, hcQ, resolve, invoke, builtin, go_sem, *] <;> rfl) (by kernel_rfl) ?_
                exact True.intro
              · intro osL dL
                simp only [putAll, Act.put, List.setIfInBounds_toArray, List.set_cons_succ, List.set_cons_zero]
                refine last_assign (.tmp 83) 2 (.bool true) rfl rfl rfl ?_
                simp only [Act.put, List.setIfInBounds_toArray, List.set_cons_succ, List.set_cons_zero]
                show Exit.then _ _ Exit.normal _ (plus W3 osL dL)
                go_wp2
                go_ret
                exact ⟨rfl, up_of_below (below_plus HW.out _ _)⟩
          · have hy' : decide (absF y < 1000) = false := decide_eq_false hy
            clear R4
            go_wp2_with (first | (go_at_call 13; refine (sFrameValid_any _ _ _ _).mono ?_; rintro e w1 ⟨rfl, os, d, rfl⟩) | (go_at_call 33; refine (abs_any _ _ (by omega) (by omega)).mono ?_; rintro e w' ⟨rfl, rfl⟩))
            refine wp_forget (fun W => Hid (BoxF W r1 x y q) ∧ Hid (Below w.heap.size w W)) ⟨B1.out.below (by first | exact Below.refl _ _ | (repeat (first | with_reducible exact Below.refl _ _ | with_reducible apply below_alloc | with_reducible apply below_drw | with_reducible apply below_drew | with_reducible apply below_drewN | with_reducible apply below_plus | with_reducible apply below_set | (simp; done)))), show Below _ _ _ by first | exact HW.out | exact below_plus HW.out _ _⟩ ?_
            clear B1 HW C0 C1 C2 ltr
            rintro W3 ⟨B1, HW⟩
            refine wp_region_any (by kernel_rfl) ?_
            refine region_lastG [(50, .bool false), (51, .bool true), (52, .bool true), (57, .bool true), (58, .bool true), (63, .bool true), (64, .bool true), (65, .agg #[.int .i64 x, .int .i64 y, .int .i64 q]), (66, .agg #[.int .i64 c1, .int .i64 c2, .int .i64 c3]), (67, .agg #[.int .i64 x, .int .i64 y, .int .i64 q]), (68, .agg #[.int .i64 x, .int .i64 y, .int .i64 q]), (69, .agg #[.int .i64 c1, .int .i64 c2, .int .i64 c3]), (70, .bool true), (71, .bool true), (72, .bool true), (73, .agg #[.int .i64 x, .int .i64 y, .int .i64 q]), (74, .agg #[.int .i64 x, .int .i64 y, .int .i64 q]), (75, .agg #[.int .i64 x, .int .i64 y, .int .i64 q]), (76, .bool true), (77, .bool true), (78, .bool true), (79, .agg #[.int .i64 x, .int .i64 y, .int .i64 q]), (80, .agg #[.int .i64 0, .int .i64 0, .int .i64 0]), (81, .agg #[.int .i64 0, .int .i64 0, .int .i64 0]), (82, .bool true), (83, .bool true)] [(52, true), (58, true), (64, true), (72, true), (78, true)] _ _ (by kernel_rfl) (by kernel_rfl) ?_ ?_ _ rfl ?_
            · simp only [putAll, Act.put, List.setIfInBounds_toArray, List.set_cons_succ, List.set_cons_zero]
              intro gQ hgQ
              simp only [List.mem_cons, List.not_mem_nil, or_false] at hgQ
              rcases hgQ with rfl | rfl | rfl | rfl | rfl
              all_goals rfl
            · simp only [putAll, Act.put, List.setIfInBounds_toArray, List.set_cons_succ, List.set_cons_zero]
              refine allG_cons (pure_move _ (.inl rfl) rfl) (by kernel_rfl) ?_
              refine allG_cons (by refine pure_quiet fun aQ osQ dQ hgQ => ?_; have h1Q : aQ.eval (.tmp 50) = .bool false := hgQ (.tmp 50) (by simp [Op.operands, Call.operands]); have hcQ : ∀ v, aQ.eval (.const v) = v := fun _ => rfl; generalize aQ.eval = rQ at h1Q hcQ; clear hgQ; simp [execOp, h1Q, hcQ, resolve, invoke, builtin, go_sem, *] <;> rfl) (by kernel_rfl) ?_
              refine allG_cons (pure_move _ (.inl rfl) rfl) (by kernel_rfl) ?_
              refine allG_skip (by kernel_rfl) rfl ?_
              refine allG_skip (by kernel_rfl) rfl ?_
              refine allG_skip (by kernel_rfl) rfl ?_
              refine allG_skip (by kernel_rfl) rfl ?_
              refine allG_cons (by refine pure_quiet fun aQ osQ dQ hgQ => ?_; have h1Q : aQ.eval (.tmp 52) = .bool true := hgQ (.tmp 52) (by simp [Op.operands, Call.operands]); have hcQ : ∀ v, aQ.eval (.const v) = v := fun _ => rfl; generalize aQ.eval = rQ at h1Q hcQ; clear hgQ; simp [execOp, h1Q, hcQ, resolve, invoke, builtin, go_sem, *] <;> rfl) (by kernel_rfl) ?_
              refine allG_cons (pure_move _ (.inl rfl) rfl) (by kernel_rfl) ?_
              refine allG_skip (by kernel_rfl) rfl ?_
              refine allG_skip (by kernel_rfl) rfl ?_
              refine allG_skip (by kernel_rfl) rfl ?_
              refine allG_skip (by kernel_rfl) rfl ?_
              refine allG_cons (by refine pure_quiet fun aQ osQ dQ hgQ => ?_; have h1Q : aQ.eval (.tmp 58) = .bool true := hgQ (.tmp 58) (by simp [Op.operands, Call.operands]); have hcQ : ∀ v, aQ.eval (.const v) = v := fun _ => rfl; generalize aQ.eval = rQ at h1Q hcQ; clear hgQ; simp [execOp, h1Q, hcQ, resolve, invoke, builtin, go_sem, *] <;> rfl) (by kernel_rfl) ?_
              refine allG_cons (pure_move _ (.inl rfl) rfl) (by kernel_rfl) ?_
              refine allG_cons (pure_load3 _ r1 _ _ _ rfl rfl (B1.out.blocks rfl) rfl) (by kernel_rfl) ?_
              refine allG_cons (pure_call _ _ _ _ rep_enters rfl rfl (fun os d => R2.out _)) (by kernel_rfl) ?_
              refine allG_cons (pure_load3 _ r1 _ _ _ rfl rfl (B1.out.blocks rfl) rfl) (by kernel_rfl) ?_
              refine allG_cons (pure_load3 _ r1 _ _ _ rfl rfl (B1.out.blocks rfl) rfl) (by kernel_rfl) ?_
              refine allG_cons (pure_call _ _ _ _ comp_enters rfl rfl (fun os d => RC.out _)) (by kernel_rfl) ?_
              refine allG_cons (by refine pure_quiet fun aQ osQ dQ hgQ => ?_; have h1Q : aQ.eval (.tmp 66) = .agg #[.int .i64 c1, .int .i64 c2, .int .i64 c3] := hgQ (.tmp 66) (by simp [Op.operands, Call.operands]); have h2Q : aQ.eval (.tmp 69) = .agg #[.int .i64 c1, .int .i64 c2, .int .i64 c3] := hgQ (.tmp 69) (by simp [Op.operands, Call.operands]); have hcQ : ∀ v, aQ.eval (.const v) = v := fun _ => rfl; generalize aQ.eval = rQ at h1Q h2Q hcQ; clear hgQ; simp [execOp, h1Q, h2Q, hcQ, resolve, invoke, builtin, go_sem, *] <;> rfl) (by kernel_rfl) ?_
              refine allG_cons (by refine pure_quiet fun aQ osQ dQ hgQ => ?_; have h1Q : aQ.eval (.tmp 64) = .bool true := hgQ (.tmp 64) (by simp [Op.operands, Call.operands]); have h2Q : aQ.eval (.tmp 70) = .bool true := hgQ (.tmp 70) (by simp [Op.operands, Call.operands]); have hcQ : ∀ v, aQ.eval (.const v) = v := fun _ => rfl; generalize aQ.eval = rQ at h1Q h2Q hcQ; clear hgQ; simp [execOp, h1Q, h2Q, hcQ, resolve, invoke, builtin, go_sem, *] <;> rfl) (by kernel_rfl) ?_
              refine allG_cons (pure_move _ (.inl rfl) rfl) (by kernel_rfl) ?_
              refine allG_cons (pure_load3 _ r1 _ _ _ rfl rfl (B1.out.blocks rfl) rfl) (by kernel_rfl) ?_
              refine allG_cons (pure_call _ _ _ _ rep_enters rfl rfl (fun os d => R1.out _)) (by kernel_rfl) ?_
              refine allG_cons (pure_load3 _ r1 _ _ _ rfl rfl (B1.out.blocks rfl) rfl) (by kernel_rfl) ?_
              refine allG_cons (by refine pure_quiet fun aQ osQ dQ hgQ => ?_; have h1Q : aQ.eval (.tmp 74) = .agg #[.int .i64 x, .int .i64 y, .int .i64 q] := hgQ (.tmp 74) (by simp [Op.operands, Call.operands]); have h2Q : aQ.eval (.tmp 75) = .agg #[.int .i64 x, .int .i64 y, .int .i64 q] := hgQ (.tmp 75) (by simp [Op.operands, Call.operands]); have hcQ : ∀ v, aQ.eval (.const v) = v := fun _ => rfl; generalize aQ.eval = rQ at h1Q h2Q hcQ; clear hgQ; simp [execOp, h1Q, h2Q, hcQ, resolve, invoke, builtin, go_sem, *] <;> rfl) (by kernel_rfl) ?_
              refine allG_cons (by refine pure_quiet fun aQ osQ dQ hgQ => ?_; have h1Q : aQ.eval (.tmp 72) = .bool true := hgQ (.tmp 72) (by simp [Op.operands, Call.operands]); have h2Q : aQ.eval (.tmp 76) = .bool true := hgQ (.tmp 76) (by simp [Op.operands, Call.operands]); have hcQ : ∀ v, aQ.eval (.const v) = v := fun _ => rfl; generalize aQ.eval = rQ at h1Q h2Q hcQ; clear hgQ; simp [execOp, h1Q, h2Q, hcQ, resolve, invoke, builtin, go_sem, *] <;> rfl) (by kernel_rfl) ?_
              refine allG_cons (pure_move _ (.inl rfl) rfl) (by kernel_rfl) ?_
              refine allG_cons (pure_load3 _ r1 _ _ _ rfl rfl (B1.out.blocks rfl) rfl) (by kernel_rfl) ?_
              refine allG_cons (pure_call _ _ _ _ rep_enters rfl rfl (fun os d => R0.out _)) (by kernel_rfl) ?_
              refine allG_cons (by refine pure_quiet fun aQ osQ dQ hgQ => ?_; have hcQ : ∀ v, aQ.eval (.const v) = v := fun _ => rfl; generalize aQ.eval = rQ at hcQ; clear hgQ; simp [execOp, hcQ, resolve, invoke, builtin, go_sem, *] <;> rfl) (by kernel_rfl) ?_
              refine allG_cons (by refine pure_quiet fun aQ osQ dQ hgQ => ?_; have h1Q : aQ.eval (.tmp 80) = .agg #[.int .i64 0, .int .i64 0, .int .i64 0] := hgQ (.tmp 80) (by simp [Op.operands, Call.operands]); have h2Q : aQ.eval (.tmp 81) = .agg #[.int .i64 0, .int .i64 0, .int .i64 0] := hgQ (.tmp 81) (by simp [Op.operands, Call.operands]); have hcQ : ∀ v, aQ.eval (.const v) = v := fun _ => rfl; generalize aQ.eval = rQ at h1Q h2Q hcQ; clear hgQ; simp [execOp, h1Q, h2Q, hcQ, resolve, invoke, builtin, go_sem, *] <;> rfl) (by kernel_rfl) ?_
              refine allG_cons (by refine pure_quiet fun aQ osQ dQ hgQ => ?_; have h1Q : aQ.eval (.tmp 78) = .bool true := hgQ (.tmp 78) (by simp [Op.operands, Call.operands]); have h2Q : aQ.eval (.tmp 82) = .bool true := hgQ (.tmp 82) (by simp [Op.operands, Call.operands]); have hcQ : ∀ v, aQ.eval (.const v) = v := fun _ => rfl; generalize aQ.eval = rQ at h1Q h2Q hcQ; clear hgQ; simp [execOp, h1Q, h2Q, hcQ, resolve, invoke, builtin, go_sem, *] <;> rfl) (by kernel_rfl) ?_
              exact True.intro
            · intro osL dL
              simp only [putAll, Act.put, List.setIfInBounds_toArray, List.set_cons_succ, List.set_cons_zero]
              refine last_assign (.tmp 83) 2 (.bool true) rfl rfl rfl ?_
              simp only [Act.put, List.setIfInBounds_toArray, List.set_cons_succ, List.set_cons_zero]
              show Exit.then _ _ Exit.normal _ (plus W3 osL dL)
              go_wp2
              go_ret
              exact ⟨rfl, up_of_below (below_plus HW.out _ _)⟩
        · have hx' : decide (absF x < 1000) = false := decide_eq_false hx
          clear R4
          go_wp2_with (first | (go_at_call 13; refine (sFrameValid_any _ _ _ _).mono ?_; rintro e w1 ⟨rfl, os, d, rfl⟩) | (go_at_call 33; refine (abs_any _ _ (by omega) (by omega)).mono ?_; rintro e w' ⟨rfl, rfl⟩))
          refine wp_forget (fun W => Hid (BoxF W r1 x y q) ∧ Hid (Below w.heap.size w W)) ⟨B1.out.below (by first | exact Below.refl _ _ | (repeat (first | with_reducible exact Below.refl _ _ | with_reducible apply below_alloc | with_reducible apply below_drw | with_reducible apply below_drew | with_reducible apply below_drewN | with_reducible apply below_plus | with_reducible apply below_set | (simp; done)))), show Below _ _ _ by first | exact HW.out | exact below_plus HW.out _ _⟩ ?_
          clear B1 HW C0 C1 C2 ltr
          rintro W3 ⟨B1, HW⟩
          refine wp_region_any (by kernel_rfl) ?_
          refine region_lastG [(50, .bool false), (51, .bool true), (52, .bool true), (57, .bool true), (58, .bool true), (63, .bool true), (64, .bool true), (65, .agg #[.int .i64 x, .int .i64 y, .int .i64 q]), (66, .agg #[.int .i64 c1, .int .i64 c2, .int .i64 c3]), (67, .agg #[.int .i64 x, .int .i64 y, .int .i64 q]), (68, .agg #[.int .i64 x, .int .i64 y, .int .i64 q]), (69, .agg #[.int .i64 c1, .int .i64 c2, .int .i64 c3]), (70, .bool true), (71, .bool true), (72, .bool true), (73, .agg #[.int .i64 x, .int .i64 y, .int .i64 q]), (74, .agg #[.int .i64 x, .int .i64 y, .int .i64 q]), (75, .agg #[.int .i64 x, .int .i64 y, .int .i64 q]), (76, .bool true), (77, .bool true), (78, .bool true), (79, .agg #[.int .i64 x, .int .i64 y, .int .i64 q]), (80, .agg #[.int .i64 0, .int .i64 0, .int .i64 0]), (81, .agg #[.int .i64 0, .int .i64 0, .int .i64 0]), (82, .bool true), (83, .bool true)] [(52, true), (58, true), (64, true), (72, true), (78, true)] _ _ (by kernel_rfl) (by kernel_rfl) ?_ ?_ _ rfl ?_
          · simp only [putAll, Act.put, List.setIfInBounds_toArray, List.set_cons_succ, List.set_cons_zero]
            intro gQ hgQ
            simp only [List.mem_cons, List.not_mem_nil, or_false] at hgQ
            rcases hgQ with rfl | rfl | rfl | rfl | rfl
            all_goals rfl
          · simp only [putAll, Act.put, List.setIfInBounds_toArray, List.set_cons_succ, List.set_cons_zero]
            refine allG_cons (pure_move _ (.inl rfl) rfl) (by kernel_rfl) ?_
            refine allG_cons (by refine pure_quiet fun aQ osQ dQ hgQ => ?_; have h1Q : aQ.eval (.tmp 50) = .bool false := hgQ (.tmp 50) (by simp [Op.operands, Call.operands]); have hcQ : ∀ v, aQ.eval (.const v) = v := fun _ => rfl; generalize aQ.eval = rQ at h1Q hcQ; clear hgQ; simp [execOp, h1Q, hcQ, resolve, invoke, builtin, go_sem, *] <;> rfl) (by kernel_rfl) ?_
            refine allG_cons (pure_move _ (.inl rfl) rfl) (by kernel_rfl) ?_
            refine allG_skip (by kernel_rfl) rfl ?_
            refine allG_skip (by kernel_rfl) rfl ?_
            refine allG_skip (by kernel_rfl) rfl ?_
            refine allG_skip (by kernel_rfl) rfl ?_
            refine allG_cons (by refine pure_quiet fun aQ osQ dQ hgQ => ?_; have h1Q : aQ.eval (.tmp 52) = .bool true := hgQ (.tmp 52) (by simp [Op.operands, Call.operands]); have hcQ : ∀ v, aQ.eval (.const v) = v := fun _ => rfl; generalize aQ.eval = rQ at h1Q hcQ; clear hgQ; simp [execOp, h1Q, hcQ, resolve, invoke, builtin, go_sem, *] <;> rfl) (by kernel_rfl) ?_
            refine allG_cons (pure_move _ (.inl rfl) rfl) (by kernel_rfl) ?_
            refine allG_skip (by kernel_rfl) rfl ?_
            refine allG_skip (by kernel_rfl) rfl ?_
            refine allG_skip (by kernel_rfl) rfl ?_
            refine allG_skip (by kernel_rfl) rfl ?_
            refine allG_cons (by refine pure_quiet fun aQ osQ dQ hgQ => ?_; have h1Q : aQ.eval (.tmp 58) = .bool true := hgQ (.tmp 58) (by simp [Op.operands, Call.operands]); have hcQ : ∀ v, aQ.eval (.const v) = v := fun _ => rfl; generalize aQ.eval = rQ at h1Q hcQ; clear hgQ; simp [execOp, h1Q, hcQ, resolve, invoke, builtin, go_sem, *] <;> rfl) (by kernel_rfl) ?_
            refine allG_cons (pure_move _ (.inl rfl) rfl) (by kernel_rfl) ?_
            refine allG_cons (pure_load3 _ r1 _ _ _ rfl rfl (B1.out.blocks rfl) rfl) (by kernel_rfl) ?_
            refine allG_cons (pure_call _ _ _ _ rep_enters rfl rfl (fun os d => R2.out _)) (by kernel_rfl) ?_
            refine allG_cons (pure_load3 _ r1 _ _ _ rfl rfl (B1.out.blocks rfl) rfl) (by kernel_rfl) ?_
            refine allG_cons (pure_load3 _ r1 _ _ _ rfl rfl (B1.out.blocks rfl) rfl) (by kernel_rfl) ?_
            refine allG_cons (pure_call _ _ _ _ comp_enters rfl rfl (fun os d => RC.out _)) (by kernel_rfl) ?_
            refine allG_cons (by refine pure_quiet fun aQ osQ dQ hgQ => ?_; have h1Q : aQ.eval (.tmp 66) = .agg #[.int .i64 c1, .int .i64 c2, .int .i64 c3] := hgQ (.tmp 66) (by simp [Op.operands, Call.operands]); have h2Q : aQ.eval (.tmp 69) = .agg #[.int .i64 c1, .int .i64 c2, .int .i64 c3] := hgQ (.tmp 69) (by simp [Op.operands, Call.operands]); have hcQ : ∀ v, aQ.eval (.const v) = v := fun _ => rfl; generalize aQ.eval = rQ at h1Q h2Q hcQ; clear hgQ; simp [execOp, h1Q, h2Q, hcQ, resolve, invoke, builtin, go_sem, *] <;> rfl) (by kernel_rfl) ?_
            refine allG_cons (by refine pure_quiet fun aQ osQ dQ hgQ => ?_; have h1Q : aQ.eval (.tmp 64) = .bool true := hgQ (.tmp 64) (by simp [Op.operands, Call.operands]); have h2Q : aQ.eval (.tmp 70) = .bool true := hgQ (.tmp 70) (by simp [Op.operands, Call.operands]); have hcQ : ∀ v, aQ.eval (.const v) = v := fun _ => rfl; generalize aQ.eval = rQ at h1Q h2Q hcQ; clear hgQ; simp [execOp, h1Q, h2Q, hcQ, resolve, invoke, builtin, go_sem, *] <;> rfl) (by kernel_rfl) ?_
            refine allG_cons (pure_move _ (.inl rfl) rfl) (by kernel_rfl) ?_
            refine allG_cons (pure_load3 _ r1 _ _ _ rfl rfl (B1.out.blocks rfl) rfl) (by kernel_rfl) ?_
            refine allG_cons (pure_call _ _ _ _ rep_enters rfl rfl (fun os d => R1.out _)) (by kernel_rfl) ?_
            refine allG_cons (pure_load3 _ r1 _ _ _ rfl rfl (B1.out.blocks rfl) rfl) (by kernel_rfl) ?_
            refine allG_cons (by refine pure_quiet fun aQ osQ dQ hgQ => ?_; have h1Q : aQ.eval (.tmp 74) = .agg #[.int .i64 x, .int .i64 y, .int .i64 q] := hgQ (.tmp 74) (by simp [Op.operands, Call.operands]); have h2Q : aQ.eval (.tmp 75) = .agg #[.int .i64 x, .int .i64 y, .int .i64 q] := hgQ (.tmp 75) (by simp [Op.operands, Call.operands]); have hcQ : ∀ v, aQ.eval (.const v) = v := fun _ => rfl; generalize aQ.eval = rQ at h1Q h2Q hcQ; clear hgQ; simp [execOp, h1Q, h2Q, hcQ, resolve, invoke, builtin, go_sem, *] <;> rfl) (by kernel_rfl) ?_
            refine allG_cons (by refine pure_quiet fun aQ osQ dQ hgQ => ?_; have h1Q : aQ.eval (.tmp 72) = .bool true := hgQ (.tmp 72) (by simp [Op.operands, Call.operands]); have h2Q : aQ.eval (.tmp 76) = .bool true := hgQ (.tmp 76) (by simp [Op.operands, Call.operands]); have hcQ : ∀ v, aQ.eval (.const v) = v := fun _ => rfl; generalize aQ.eval = rQ at h1Q h2Q hcQ; clear hgQ; simp [execOp, h1Q, h2Q, hcQ, resolve, invoke, builtin, go_sem, *] <;> rfl) (by kernel_rfl) ?_
            refine allG_cons (pure_move _ (.inl rfl) rfl) (by kernel_rfl) ?_
            refine allG_cons (pure_load3 _ r1 _ _ _ rfl rfl (B1.out.blocks rfl) rfl) (by kernel_rfl) ?_
            refine allG_cons (pure_call _ _ _ _ rep_enters rfl rfl (fun os d => R0.out _)) (by kernel_rfl) ?_
            refine allG_cons (by refine pure_quiet fun aQ osQ dQ hgQ => ?_; have hcQ : ∀ v, aQ.eval (.const v) = v := fun _ => rfl; generalize aQ.eval = rQ at hcQ; clear hgQ; simp [execOp, hcQ, resolve, invoke, builtin, go_sem, *] <;> rfl) (by kernel_rfl) ?_
            refine allG_cons (by refine pure_quiet fun aQ osQ dQ hgQ => ?_; have h1Q : aQ.eval (.tmp 80) = .agg #[.int .i64 0, .int .i64 0, .int .i64 0] := hgQ (.tmp 80) (by simp [Op.operands, Call.operands]); have h2Q : aQ.eval (.tmp 81) = .agg #[.int .i64 0, .int .i64 0, .int .i64 0] := hgQ (.tmp 81) (by simp [Op.operands, Call.operands]); have hcQ : ∀ v, aQ.eval (.const v) = v := fun _ => rfl; generalize aQ.eval = rQ at h1Q h2Q hcQ; clear hgQ; simp [execOp, h1Q, h2Q, hcQ, resolve, invoke, builtin, go_sem, *] <;> rfl) (by kernel_rfl) ?_
            refine allG_cons (by refine pure_quiet fun aQ osQ dQ hgQ => ?_; have h1Q : aQ.eval (.tmp 78) = .bool true := hgQ (.tmp 78) (by simp [Op.operands, Call.operands]); have h2Q : aQ.eval (.tmp 82) = .bool true := hgQ (.tmp 82) (by simp [Op.operands, Call.operands]); have hcQ : ∀ v, aQ.eval (.const v) = v := fun _ => rfl; generalize aQ.eval = rQ at h1Q h2Q hcQ; clear hgQ; simp [execOp, h1Q, h2Q, hcQ, resolve, invoke, builtin, go_sem, *] <;> rfl) (by kernel_rfl) ?_
            exact True.intro
          · intro osL dL
            simp only [putAll, Act.put, List.setIfInBounds_toArray, List.set_cons_succ, List.set_cons_zero]
            refine last_assign (.tmp 83) 2 (.bool true) rfl rfl rfl ?_
            simp only [Act.put, List.setIfInBounds_toArray, List.set_cons_succ, List.set_cons_zero]
            show Exit.then _ _ Exit.normal _ (plus W3 osL dL)
            go_wp2
            go_ret
            exact ⟨rfl, up_of_below (below_plus HW.out _ _)⟩
    · have hrep : repX x y q m = 0 ∧ repY x y q m = 0 ∧ repQ x y q m = 0 := rep_not (by
        cases h : frB x y q with
        | false => unfold repB; rw [h]; rfl
        | true =>
          have : inB m 0 100 = false := by
            have h3 : ¬ (0 ≤ m ∧ m ≤ 100) := fun h2 => hA ⟨h, h2⟩
            rw [inB_f]; omega
          unfold repB; rw [this]; simp)
      obtain ⟨iX, iY, iQ⟩ := hrep
      have hbad : Hid (frB x y q = true → m < 0 ∨ 100 < m) := fun h => by
        have h3 : ¬ (0 ≤ m ∧ m ≤ 100) := fun h2 => hA ⟨h, h2⟩
        omega
      clear hA
      go_wp2_with fail
      refine (repeat_any _ _ _ _ _).mono ?_
      rintro e w1 ⟨rfl, os2, d2, rfl⟩
      rw [iX, iY, iQ]
      have S5 := Lib.hid (fun W => (show Calls Try.prog 26 #[.agg #[.int .i64 x, .int .i64 y, .int .i64 q], .int .i64 m] W (fun e w' => e = .returned (.agg #[.int .i64 0, .int .i64 0, .int .i64 0]) ∧ Up W w') by have h := sRepeat_any x y q m W; rwa [iX, iY, iQ] at h))
      clear iX iY iQ
      go_wp2
      refine wp_forget (fun W => Hid (BoxF W (w.heap.size + os0.size) x y q) ∧ Hid (BoxF W (w.heap.size + os0.size + 1 + os2.size) 0 0 0) ∧ Hid (Below w.heap.size w W)) ⟨⟨by simp [go_sem], by simp [go_sem], by simp [go_sem], by simp [go_sem]⟩, ⟨by simp [go_sem], by simp [go_sem], by simp [go_sem], by simp [go_sem]⟩, show Below _ _ _ by repeat (first | with_reducible exact Below.refl _ _ | with_reducible apply below_alloc | with_reducible apply below_drw | with_reducible apply below_drew | with_reducible apply below_drewN | with_reducible apply below_plus | with_reducible apply below_set | (simp; done))⟩ ?_
      rintro W ⟨B1, B2, HW⟩
      generalize w.heap.size + os0.size = r1 at B1 B2 ⊢
      generalize r1 + 1 + os2.size = r2 at B2 ⊢
      refine wp_region_any (by kernel_rfl) ?_
      refine region_lastG [(18, .agg #[.int .i64 0, .int .i64 0, .int .i64 0]), (19, .agg #[.int .i64 x, .int .i64 y, .int .i64 q]), (20, .int .i64 m), (21, .agg #[.int .i64 0, .int .i64 0, .int .i64 0])] [] _ _ (by kernel_rfl) (by kernel_rfl) ?_ ?_ _ rfl ?_
      · simp only [putAll, Act.put, List.setIfInBounds_toArray, List.set_cons_succ, List.set_cons_zero]
        intro gQ hgQ
        exact absurd hgQ (List.not_mem_nil)
      · simp only [putAll, Act.put, List.setIfInBounds_toArray, List.set_cons_succ, List.set_cons_zero]
        refine allG_cons (pure_load3 _ r2 _ _ _ rfl rfl (B2.out.blocks rfl) rfl) (by kernel_rfl) ?_
        refine allG_cons (pure_load3 _ r1 _ _ _ rfl rfl (B1.out.blocks rfl) rfl) (by kernel_rfl) ?_
        refine allG_cons (pure_move _ (.inl rfl) rfl) (by kernel_rfl) ?_
        refine allG_cons (pure_call _ _ _ _ srep_enters rfl rfl (fun os d => S5.out _)) (by kernel_rfl) ?_
        exact True.intro
      · intro osL dL
        simp only [putAll, Act.put, List.setIfInBounds_toArray, List.set_cons_succ, List.set_cons_zero]
        refine last_quiet2 22 (.bool false) (.tmp 18) (.tmp 21) _ _ rfl rfl rfl (fun ρ h1 h2 => by simp [execOp, h1, h2, go_sem]) ?_
        simp only [Act.put, List.setIfInBounds_toArray, List.set_cons_succ, List.set_cons_zero]
        show Exit.then _ _ Exit.normal _ (plus W osL dL)
        have C0 := (plus_cell (os := osL) (d := dL) r1 0 B1.out.lt).trans B1.out.c0
        have C1 := (plus_cell (os := osL) (d := dL) r1 1 B1.out.lt).trans B1.out.c1
        have C2 := (plus_cell (os := osL) (d := dL) r1 2 B1.out.lt).trans B1.out.c2
        have B1 := Lib.hid (B1.out.below (below_plus (Below.refl _ _) osL dL))
        have HW := Lib.hid (below_plus HW.out osL dL)
        have ltr := B1.out.lt
        have D0 := (plus_cell (os := osL) (d := dL) r2 0 B2.out.lt).trans B2.out.c0
        have D1 := (plus_cell (os := osL) (d := dL) r2 1 B2.out.lt).trans B2.out.c1
        have D2 := (plus_cell (os := osL) (d := dL) r2 2 B2.out.lt).trans B2.out.c2
        have B2 := Lib.hid (B2.out.below (below_plus (Below.refl _ _) osL dL))
        have ltr2 := B2.out.lt
        clear S5
        generalize plus W osL dL = W2 at C0 C1 C2 D0 D1 D2 B1 B2 HW ltr ltr2 ⊢
        cases hv : frB x y q
        · go_wp2_with (first | (go_at_call 13; refine (sFrameValid_any _ _ _ _).mono ?_; rintro e w1 ⟨rfl, os, d, rfl⟩) | (go_at_call 29; refine (alive_any _).mono ?_; rintro e w' ⟨rfl, rfl⟩))
          go_ret
          exact ⟨rfl, up_of_below (by first | exact HW.out | exact below_plus HW.out _ _)⟩
        · rcases hbad.out hv with hneg | hbig
          · go_wp2_with (first | (go_at_call 13; refine (sFrameValid_any _ _ _ _).mono ?_; rintro e w1 ⟨rfl, os, d, rfl⟩) | (go_at_call 29; refine (alive_any _).mono ?_; rintro e w' ⟨rfl, rfl⟩))
            go_ret
            exact ⟨rfl, up_of_below (by first | exact HW.out | exact below_plus HW.out _ _)⟩
          · go_wp2_with (first | (go_at_call 13; refine (sFrameValid_any _ _ _ _).mono ?_; rintro e w1 ⟨rfl, os, d, rfl⟩) | (go_at_call 29; refine (alive_any _).mono ?_; rintro e w' ⟨rfl, rfl⟩))
            go_ret
            exact ⟨rfl, up_of_below (by first | exact HW.out | exact below_plus HW.out _ _)⟩
  · go_enter Try.func11, Try.ntmps11
    go_wp2
    go_ret
    exact ⟨rfl, up_of_below (Below.refl _ _)⟩

end Go.Proofs.Ytnflmbmhncndfaa
