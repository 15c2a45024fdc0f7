/-
  The walk of the law on composed frames. No condition.
-/
import Derived.Test.YtnflmbmhncndfaaFrG
import Derived.Test.YtnflmbmhncndfaaFrDraw
import Derived.Test.YtnflmbmhncndfaaLastG
import Derived.Shelf.Abstract
namespace Go.Proofs.Ytnflmbmhncndfaa
set_option linter.unusedSimpArgs false
open Go.RowKit

theorem scomp_enters (args : Array Value) (w : World) : (callFunc 20 args).run Try.prog w = .ok (.enter 20 args) w := (enters_of Try.func20 (by kernel_rfl) rfl) args w
theorem comp_enters (args : Array Value) (w : World) : (callFunc 21 args).run Try.prog w = .ok (.enter 21 args) w := (enters_of Try.func21 (by kernel_rfl) rfl) args w
theorem abs_enters (args : Array Value) (w : World) : (callFunc 33 args).run Try.prog w = .ok (.enter 33 args) w := (enters_of Try.func33 (by kernel_rfl) rfl) args w
theorem sval_enters (args : Array Value) (w : World) : (callFunc 13 args).run Try.prog w = .ok (.enter 13 args) w := (enters_of Try.func13 (by kernel_rfl) rfl) args w
theorem pval_enters (args : Array Value) (w : World) : (callFunc 35 args).run Try.prog w = .ok (.enter 35 args) w := (enters_of Try.func35 (by kernel_rfl) rfl) args w
theorem app_enters (args : Array Value) (w : World) : (callFunc 24 args).run Try.prog w = .ok (.enter 24 args) w := (enters_of Try.func24 (by kernel_rfl) rfl) args w

/-- A block that holds a frame. -/
structure BoxF (w : World) (r : Nat) (x y q : Int) : Prop where
  lt : r < w.heap.size
  c0 : w.cell? ⟨r, 0, none⟩ = some (.int .i64 x)
  c1 : w.cell? ⟨r, 1, none⟩ = some (.int .i64 y)
  c2 : w.cell? ⟨r, 2, none⟩ = some (.int .i64 q)
theorem BoxF.below {w w' : World} {r : Nat} {x y q : Int} (h : BoxF w r x y q) (hb : Below w.heap.size w w') : BoxF w' r x y q :=
  ⟨Nat.lt_of_lt_of_le h.lt hb.size, (hb.cell (p := ⟨r, 0, none⟩) h.lt).trans h.c0, (hb.cell (p := ⟨r, 1, none⟩) h.lt).trans h.c1, (hb.cell (p := ⟨r, 2, none⟩) h.lt).trans h.c2⟩
theorem BoxF.blocks {w w' : World} {r : Nat} {x y q : Int} (h : BoxF w r x y q) (hb : w'.heap = w.heap) : BoxF w' r x y q :=
  ⟨by rw [hb]; exact h.lt, (World.cell?_of_block (by rw [hb])).trans h.c0, (World.cell?_of_block (by rw [hb])).trans h.c1, (World.cell?_of_block (by rw [hb])).trans h.c2⟩
theorem pure_load3 {w0 : World} {A : Act} {o : Oper} (x : Operand) (r : Nat) (x0 x1 x2 : Int) (h : o.op = .load 25 x) (hx : A.eval x = .pointer (some ⟨r, 0, none⟩)) (hb : BoxF w0 r x0 x1 x2) (hv : gd A (o.dst.getD 0) = .agg #[.int .i64 x0, .int .i64 x1, .int .i64 x2]) : PureStep Try.prog w0 A o := by
  refine pure_quiet fun a os d hg => ?_
  have gx := (hg x (by simp [h, Op.operands])).trans hx
  rw [hv]
  obtain ⟨_, c0, c1, c2⟩ := hb.below (below_plus (Below.refl _ _) os d)
  generalize a.eval = ρ at gx
  generalize plus w0 os d = W at c0 c1 c2
  simp [execOp, h, gx, Instr.loadAt, go_sem, c0, c1, c2]
/-- A block that holds a point. -/
structure BoxP (w : World) (r : Nat) (x y : Int) : Prop where
  lt : r < w.heap.size
  c0 : w.cell? ⟨r, 0, none⟩ = some (.int .i64 x)
  c1 : w.cell? ⟨r, 1, none⟩ = some (.int .i64 y)
theorem BoxP.below {w w' : World} {r : Nat} {x y : Int} (h : BoxP w r x y) (hb : Below w.heap.size w w') : BoxP w' r x y :=
  ⟨Nat.lt_of_lt_of_le h.lt hb.size, (hb.cell (p := ⟨r, 0, none⟩) h.lt).trans h.c0, (hb.cell (p := ⟨r, 1, none⟩) h.lt).trans h.c1⟩
theorem BoxP.blocks {w w' : World} {r : Nat} {x y : Int} (h : BoxP w r x y) (hb : w'.heap = w.heap) : BoxP w' r x y :=
  ⟨by rw [hb]; exact h.lt, (World.cell?_of_block (by rw [hb])).trans h.c0, (World.cell?_of_block (by rw [hb])).trans h.c1⟩
theorem pure_load2 {w0 : World} {A : Act} {o : Oper} (x : Operand) (r : Nat) (x0 x1 : Int) (h : o.op = .load 37 x) (hx : A.eval x = .pointer (some ⟨r, 0, none⟩)) (hb : BoxP w0 r x0 x1) (hv : gd A (o.dst.getD 0) = .agg #[.int .i64 x0, .int .i64 x1]) : PureStep Try.prog w0 A o := by
  refine pure_quiet fun a os d hg => ?_
  have gx := (hg x (by simp [h, Op.operands])).trans hx
  rw [hv]
  obtain ⟨_, c0, c1⟩ := hb.below (below_plus (Below.refl _ _) os d)
  generalize a.eval = ρ at gx
  generalize plus w0 os d = W at c0 c1
  simp [execOp, h, gx, Instr.loadAt, go_sem, c0, c1]
theorem pure_load1 {w0 : World} {A : Act} {o : Oper} (x : Operand) (r i : Nat) (x0 : Int) (h : o.op = .load 3 x) (hx : A.eval x = .pointer (some ⟨r, i, none⟩)) (hr : r < w0.heap.size) (hb : w0.cell? ⟨r, i, none⟩ = some (.int .i64 x0)) (hv : gd A (o.dst.getD 0) = .int .i64 x0) : PureStep Try.prog w0 A o := by
  refine pure_quiet fun a os d hg => ?_
  have gx := (hg x (by simp [h, Op.operands])).trans hx
  rw [hv]
  have c0 := (plus_cell (os := os) (d := d) r i hr).trans hb
  generalize a.eval = ρ at gx
  generalize plus w0 os d = W at c0
  simp [execOp, h, gx, Instr.loadAt, go_sem, c0]
theorem last_quiet2 {o : Oper} {a : Act} {w : World} {K : Act → World → Prop} {Q : Exit → Act → World → Prop} (d : Nat) (r : Value) (x y : Operand) (u v : Value) (hd : o.dst = some d) (hx : a.eval x = u) (hy : a.eval y = v) (hrun : ∀ ρ : Operand → Value, ρ x = u → ρ y = v → (execOp ρ o).run Try.prog w = .ok (.value r) w) (hk : K (a.put (some d) r) w) : o.wp Try.prog a w K Q := by
  rw [← hd] at hk
  unfold Oper.wp
  rw [hrun a.eval hx hy]
  exact hk
theorem last_assign {o : Oper} {a : Act} {w : World} {K : Act → World → Prop} {Q : Exit → Act → World → Prop} (x : Operand) (d : Nat) (v : Value) (h : o.op = .assign x) (hd : o.dst = some d) (hv : a.eval x = v) (hk : K (a.put (some d) v) w) : o.wp Try.prog a w K Q := by
  rw [← hd] at hk
  unfold Oper.wp
  generalize a.eval = ρ at hv
  simp [execOp, h, hv, go_sem]
  exact hk
theorem wp_forget {P : Program} {c : Code} {Q : Exit → Act → World → Prop} {a : Act} {w : World} (S : World → Prop) (h : S w) (hk : ∀ W, S W → c.wp P Q a W) : c.wp P Q a w := hk w h

theorem last_quiet3 {o : Oper} {a : Act} {w : World} {K : Act → World → Prop} {Q : Exit → Act → World → Prop} (d : Nat) (r : Value) (x y : Operand) (u v : Value) (hd : o.dst = some d) (hx : a.eval x = u) (hy : a.eval y = v) (hrun : ∀ ρ : Operand → Value, (∀ v, ρ (.const v) = v) → ρ x = u → ρ y = v → (execOp ρ o).run Try.prog w = .ok (.value r) w) (hk : K (a.put (some d) r) w) : o.wp Try.prog a w K Q := by
  rw [← hd] at hk
  unfold Oper.wp
  rw [hrun a.eval (fun _ => rfl) hx hy]
  exact hk
theorem absU (n : Int) (w : World) (h1 : -1000000000 ≤ n) (h2 : n ≤ 1000000000) : Calls Try.prog 33 #[.int .i64 n] w fun e w' => e = .returned (.int .i64 (absF n)) ∧ Up w w' :=
  (abs_any n w h1 h2).mono fun _ _ h => ⟨h.1, h.2 ▸ up_of_below (Below.refl _ _)⟩

set_option maxRecDepth 100000 in
set_option maxHeartbeats 8000000 in
theorem lawComposeFrames_any (a : Option Addr) (n c : Nat) (a2 : Option Addr) (n2 c2 : Nat) (w : World) (hb : Bytes w w.heap.size a n) (hnc : n ≤ c) (hcm : c ≤ maxLen) (hb2 : Bytes w w.heap.size a2 n2) (hnc2 : n2 ≤ c2) (hcm2 : c2 ≤ maxLen) :
    Calls Try.prog 12 #[.slice a n c, .slice a2 n2 c2] w fun e w' => e = .returned (.bool true) ∧ Up w w' := by
  have hmm : c ≤ 9223372036854775807 := by unfold maxLen at hcm; omega
  have hmm2 : c2 ≤ 9223372036854775807 := by unfold maxLen at hcm2; omega
  by_cases hn : n ≤ 1048576
  · by_cases hn2 : n2 ≤ 1048576
    · go_enter Try.func12, Try.ntmps12
      go_wp2_with (first | (go_at_call 34; refine (drawComposeFrames_any _ _ _ _ hb hnc hcm).mono ?_; rintro e w1 ⟨x, y, q, x', y', q', hA, hB, rfl, os0, d0, rfl⟩) | (go_at_call 30; refine (drawApplyFrame_any _ _ _ _ (Bytes.later hb2 (by repeat (first | with_reducible exact Below.refl _ _ | with_reducible apply below_alloc | with_reducible apply below_drw | with_reducible apply below_drew | with_reducible apply below_drewN | with_reducible apply below_plus | with_reducible apply below_set | (simp; done)))) hnc2 hcm2).mono ?_; rintro e w1 ⟨k, l, m, px, py, hC, hP, rfl, os1, d1, rfl⟩))
      by_cases hV : frB x y q = true ∧ frB x' y' q' = true
      · obtain ⟨hv, hv'⟩ := hV
        have R1 : Hid (∀ W, Calls Try.prog 21 #[.agg #[.int .i64 x, .int .i64 y, .int .i64 q], .agg #[.int .i64 0, .int .i64 0, .int .i64 0]] W fun e w' => e = .returned (.agg #[.int .i64 x, .int .i64 y, .int .i64 q]) ∧ Up W w') := fun W => by
          have h := compose_any x y q 0 0 0 W
          have e := (cm_zero hv).1
          rwa [e.1, e.2.1, e.2.2] at h
        have R2 : Hid (∀ W, Calls Try.prog 21 #[.agg #[.int .i64 0, .int .i64 0, .int .i64 0], .agg #[.int .i64 x, .int .i64 y, .int .i64 q]] W fun e w' => e = .returned (.agg #[.int .i64 x, .int .i64 y, .int .i64 q]) ∧ Up W w') := fun W => by
          have h := compose_any 0 0 0 x y q W
          have e := (cm_zero hv).2
          rwa [e.1, e.2.1, e.2.2] at h
        have K1 : Hid (absF x + absF x' + absF k + absF y + absF y' + absF l ≤ 1000000 → frB k l m = true → ∀ W, Calls Try.prog 21 #[.agg #[.int .i64 (cmX x y q x' y' q'), .int .i64 (cmY x y q x' y' q'), .int .i64 (cmQ x y q x' y' q')], .agg #[.int .i64 k, .int .i64 l, .int .i64 m]] W fun e w' => e = .returned (.agg #[.int .i64 (cmX x y q (cmX x' y' q' k l m) (cmY x' y' q' k l m) (cmQ x' y' q' k l m)), .int .i64 (cmY x y q (cmX x' y' q' k l m) (cmY x' y' q' k l m) (cmQ x' y' q' k l m)), .int .i64 (cmQ x y q (cmX x' y' q' k l m) (cmY x' y' q' k l m) (cmQ x' y' q' k l m))]) ∧ Up W w') := fun hs hc W => by
          have h := compose_any (cmX x y q x' y' q') (cmY x y q x' y' q') (cmQ x y q x' y' q') k l m W
          obtain ⟨e1, e2, e3, _⟩ := cm_assoc hv hv' hc hs
          rwa [e1, e2, e3] at h
        have K2 := Lib.hid (fun W => compose_any x' y' q' k l m W)
        have K3 := Lib.hid (fun W => compose_any x y q (cmX x' y' q' k l m) (cmY x' y' q' k l m) (cmQ x' y' q' k l m) W)
        have J1 : Hid (absF x + absF x' + absF k + absF y + absF y' + absF l ≤ 1000000 → frB k l m = true → ptB px py = true → ptB (apX x' y' q' px py) (apY x' y' q' px py) = true → ∀ W, Calls Try.prog 24 #[.agg #[.int .i64 (cmX x y q x' y' q'), .int .i64 (cmY x y q x' y' q'), .int .i64 (cmQ x y q x' y' q')], .agg #[.int .i64 px, .int .i64 py]] W fun e w' => e = .returned (.agg #[.int .i64 (apX x y q (apX x' y' q' px py) (apY x' y' q' px py)), .int .i64 (apY x y q (apX x' y' q' px py) (apY x' y' q' px py))]) ∧ Up W w') := fun hs hc hp hi W => by
          have h := apply_any (cmX x y q x' y' q') (cmY x y q x' y' q') (cmQ x y q x' y' q') px py W
          obtain ⟨e1, e2⟩ := ap_cm hv hv' hc hs hp hi
          rwa [e1, e2] at h
        have J2 := Lib.hid (fun W => apply_any x y q (apX x' y' q' px py) (apY x' y' q' px py) W)
        have S5 := Lib.hid (fun W => sCompose_any x y q x' y' q' W)
        have JI := Lib.hid (fun W => apply_any x' y' q' px py W)
        have CF := Lib.hid (fun W => compose_any x y q x' y' q' W)
        generalize apX x y q (apX x' y' q' px py) (apY x' y' q' px py) = v1 at J1 J2
        generalize apY x y q (apX x' y' q' px py) (apY x' y' q' px py) = v2 at J1 J2
        generalize apX x' y' q' px py = ix at J1 J2 JI
        generalize apY x' y' q' px py = iy at J1 J2 JI
        generalize cmX x y q (cmX x' y' q' k l m) (cmY x' y' q' k l m) (cmQ x' y' q' k l m) = T1 at K1 K3
        generalize cmY x y q (cmX x' y' q' k l m) (cmY x' y' q' k l m) (cmQ x' y' q' k l m) = T2 at K1 K3
        generalize cmQ x y q (cmX x' y' q' k l m) (cmY x' y' q' k l m) (cmQ x' y' q' k l m) = T3 at K1 K3
        generalize cmX x' y' q' k l m = U1 at K2 K3
        generalize cmY x' y' q' k l m = U2 at K2 K3
        generalize cmQ x' y' q' k l m = U3 at K2 K3
        generalize cmX x y q x' y' q' = X at K1 J1 S5 CF
        generalize cmY x y q x' y' q' = Y at K1 J1 S5 CF
        generalize cmQ x y q x' y' q' = Q at K1 J1 S5 CF
        have H1 := Lib.hid (fun W => absU x W (by obtain ⟨⟨_, _⟩, ⟨_, _⟩, _⟩ := hA; omega) (by obtain ⟨⟨_, _⟩, ⟨_, _⟩, _⟩ := hA; omega))
        have H2 := Lib.hid (fun W => absU x' W (by obtain ⟨⟨_, _⟩, ⟨_, _⟩, _⟩ := hB; omega) (by obtain ⟨⟨_, _⟩, ⟨_, _⟩, _⟩ := hB; omega))
        have H3 := Lib.hid (fun W => absU k W (by obtain ⟨⟨_, _⟩, ⟨_, _⟩, _⟩ := hC; omega) (by obtain ⟨⟨_, _⟩, ⟨_, _⟩, _⟩ := hC; omega))
        have H4 := Lib.hid (fun W => absU y W (by obtain ⟨⟨_, _⟩, ⟨_, _⟩, _⟩ := hA; omega) (by obtain ⟨⟨_, _⟩, ⟨_, _⟩, _⟩ := hA; omega))
        have H5 := Lib.hid (fun W => absU y' W (by obtain ⟨⟨_, _⟩, ⟨_, _⟩, _⟩ := hB; omega) (by obtain ⟨⟨_, _⟩, ⟨_, _⟩, _⟩ := hB; omega))
        have H6 := Lib.hid (fun W => absU l W (by obtain ⟨⟨_, _⟩, ⟨_, _⟩, _⟩ := hC; omega) (by obtain ⟨⟨_, _⟩, ⟨_, _⟩, _⟩ := hC; omega))
        have b1 : 0 ≤ absF x ∧ absF x ≤ 1000000 := by obtain ⟨⟨_, _⟩, _, _⟩ := hA; unfold absF; omega
        have b2 : 0 ≤ absF x' ∧ absF x' ≤ 1000000 := by obtain ⟨⟨_, _⟩, _, _⟩ := hB; unfold absF; omega
        have b3 : 0 ≤ absF k ∧ absF k ≤ 1000000 := by obtain ⟨⟨_, _⟩, _, _⟩ := hC; unfold absF; omega
        have b4 : 0 ≤ absF y ∧ absF y ≤ 1000000 := by obtain ⟨_, ⟨_, _⟩, _⟩ := hA; unfold absF; omega
        have b5 : 0 ≤ absF y' ∧ absF y' ≤ 1000000 := by obtain ⟨_, ⟨_, _⟩, _⟩ := hB; unfold absF; omega
        have b6 : 0 ≤ absF l ∧ absF l ≤ 1000000 := by obtain ⟨_, ⟨_, _⟩, _⟩ := hC; unfold absF; omega
        generalize absF x = A1 at H1 b1 K1 J1
        generalize absF x' = A2 at H2 b2 K1 J1
        generalize absF k = A3 at H3 b3 K1 J1
        generalize absF y = A4 at H4 b4 K1 J1
        generalize absF y' = A5 at H5 b5 K1 J1
        generalize absF l = A6 at H6 b6 K1 J1
        have WR : Hid (IntKind.i64.wrap (A1 + A2) = A1 + A2 ∧ IntKind.i64.wrap (A1 + A2 + A3) = A1 + A2 + A3 ∧ IntKind.i64.wrap (A1 + A2 + A3 + A4) = A1 + A2 + A3 + A4 ∧ IntKind.i64.wrap (A1 + A2 + A3 + A4 + A5) = A1 + A2 + A3 + A4 + A5 ∧ IntKind.i64.wrap (A1 + A2 + A3 + A4 + A5 + A6) = A1 + A2 + A3 + A4 + A5 + A6) := ⟨IntWalk.i64_in _ (by omega), IntWalk.i64_in _ (by omega), IntWalk.i64_in _ (by omega), IntWalk.i64_in _ (by omega), IntWalk.i64_in _ (by omega)⟩
        clear b1 b2 b3 b4 b5 b6 hA hB hC hP
        go_wp2_with fail
        refine (CF.out _).mono ?_
        rintro e w1 ⟨rfl, os2, d2, rfl⟩
        go_wp2
        refine wp_forget (fun W => Hid (BoxF W (w.heap.size + os0.size) x y q) ∧ Hid (BoxF W (w.heap.size + os0.size + 1) x' y' q') ∧ Hid (BoxF W (w.heap.size + os0.size + 1 + 1 + os1.size) k l m) ∧ Hid (BoxP W (w.heap.size + os0.size + 1 + 1 + os1.size + 1) px py) ∧ Hid (BoxF W (w.heap.size + os0.size + 1 + 1 + os1.size + 1 + 1 + os2.size) X Y Q) ∧ Hid (Below w.heap.size w W)) ⟨⟨by simp [go_sem], by simp [go_sem], by simp [go_sem], by simp [go_sem]⟩, ⟨by simp [go_sem], by simp [go_sem], by simp [go_sem], by simp [go_sem]⟩, ⟨by simp [go_sem], by simp [go_sem], by simp [go_sem], by simp [go_sem]⟩, ⟨by simp [go_sem], by simp [go_sem], by simp [go_sem]⟩, ⟨by simp [go_sem], by simp [go_sem], by simp [go_sem], by simp [go_sem]⟩, show Below _ _ _ by repeat (first | with_reducible exact Below.refl _ _ | with_reducible apply below_alloc | with_reducible apply below_drw | with_reducible apply below_drew | with_reducible apply below_drewN | with_reducible apply below_plus | with_reducible apply below_set | (simp; done))⟩ ?_
        rintro W ⟨B5, B6, B7, B8, B9, HW⟩
        generalize w.heap.size + os0.size + 1 + 1 + os1.size + 1 + 1 + os2.size = r9 at B9 ⊢
        generalize w.heap.size + os0.size + 1 + 1 + os1.size + 1 = r8 at B8 ⊢
        generalize w.heap.size + os0.size + 1 + 1 + os1.size = r7 at B7 ⊢
        generalize w.heap.size + os0.size + 1 = r6 at B6 ⊢
        generalize w.heap.size + os0.size = r5 at B5 ⊢
        refine wp_region_any (by kernel_rfl) ?_
        refine region_lastG [(32, .agg #[.int .i64 X, .int .i64 Y, .int .i64 Q]), (33, .agg #[.int .i64 x, .int .i64 y, .int .i64 q]), (34, .agg #[.int .i64 x', .int .i64 y', .int .i64 q']), (35, .agg #[.int .i64 X, .int .i64 Y, .int .i64 Q])] [] _ _ (by kernel_rfl) (by kernel_rfl) ?_ ?_ _ rfl ?_
        · simp only [putAll, Act.put, List.setIfInBounds_toArray, List.set_cons_succ, List.set_cons_zero]
          intro gQ hgQ
          exact absurd hgQ (List.not_mem_nil)
        · simp only [putAll, Act.put, List.setIfInBounds_toArray, List.set_cons_succ, List.set_cons_zero]
          refine allG_cons (pure_load3 _ r9 _ _ _ rfl rfl (B9.out.blocks rfl) rfl) (by kernel_rfl) ?_
          refine allG_cons (pure_load3 _ r5 _ _ _ rfl rfl (B5.out.blocks rfl) rfl) (by kernel_rfl) ?_
          refine allG_cons (pure_load3 _ r6 _ _ _ rfl rfl (B6.out.blocks rfl) rfl) (by kernel_rfl) ?_
          refine allG_cons (pure_call _ _ _ _ scomp_enters rfl rfl (fun os d => S5.out _)) (by kernel_rfl) ?_
          exact True.intro
        · intro osL dL
          simp only [putAll, Act.put, List.setIfInBounds_toArray, List.set_cons_succ, List.set_cons_zero]
          refine last_quiet2 36 (.bool false) (.tmp 32) (.tmp 35) _ _ rfl rfl rfl (fun ρ h1 h2 => by simp [execOp, h1, h2, go_sem]) ?_
          simp only [Act.put, List.setIfInBounds_toArray, List.set_cons_succ, List.set_cons_zero]
          show Exit.then _ _ Exit.normal _ (plus W osL dL)
          have D5_0 := (plus_cell (os := osL) (d := dL) r5 0 B5.out.lt).trans B5.out.c0
          have D5_1 := (plus_cell (os := osL) (d := dL) r5 1 B5.out.lt).trans B5.out.c1
          have D5_2 := (plus_cell (os := osL) (d := dL) r5 2 B5.out.lt).trans B5.out.c2
          have D6_0 := (plus_cell (os := osL) (d := dL) r6 0 B6.out.lt).trans B6.out.c0
          have D6_1 := (plus_cell (os := osL) (d := dL) r6 1 B6.out.lt).trans B6.out.c1
          have D6_2 := (plus_cell (os := osL) (d := dL) r6 2 B6.out.lt).trans B6.out.c2
          have B5 := Lib.hid (B5.out.below (below_plus (Below.refl _ _) osL dL))
          have B6 := Lib.hid (B6.out.below (below_plus (Below.refl _ _) osL dL))
          have B7 := Lib.hid (B7.out.below (below_plus (Below.refl _ _) osL dL))
          have B8 := Lib.hid (B8.out.below (below_plus (Below.refl _ _) osL dL))
          have B9 := Lib.hid (B9.out.below (below_plus (Below.refl _ _) osL dL))
          have HW := Lib.hid (below_plus HW.out osL dL)
          have ltr5 := B5.out.lt
          have ltr6 := B6.out.lt
          clear S5 CF
          generalize plus W osL dL = W2 at D5_0 D5_1 D5_2 D6_0 D6_1 D6_2 B5 B6 B7 B8 B9 HW ltr5 ltr6 ⊢
          go_wp2_with (first | (go_at_call 13; refine (sFrameValid_any _ _ _ _).mono ?_; rintro e w1 ⟨rfl, os, d, rfl⟩))
          refine wp_forget (fun W => Hid (BoxF W r5 x y q) ∧ Hid (BoxF W r6 x' y' q') ∧ Hid (BoxF W r7 k l m) ∧ Hid (BoxP W r8 px py) ∧ Hid (BoxF W r9 X Y Q) ∧ Hid (Below w.heap.size w W)) ⟨B5.out.below (by first | exact Below.refl _ _ | (repeat (first | with_reducible exact Below.refl _ _ | with_reducible apply below_alloc | with_reducible apply below_drw | with_reducible apply below_drew | with_reducible apply below_drewN | with_reducible apply below_plus | with_reducible apply below_set | (simp; done)))), B6.out.below (by first | exact Below.refl _ _ | (repeat (first | with_reducible exact Below.refl _ _ | with_reducible apply below_alloc | with_reducible apply below_drw | with_reducible apply below_drew | with_reducible apply below_drewN | with_reducible apply below_plus | with_reducible apply below_set | (simp; done)))), B7.out.below (by first | exact Below.refl _ _ | (repeat (first | with_reducible exact Below.refl _ _ | with_reducible apply below_alloc | with_reducible apply below_drw | with_reducible apply below_drew | with_reducible apply below_drewN | with_reducible apply below_plus | with_reducible apply below_set | (simp; done)))), B8.out.below (by first | exact Below.refl _ _ | (repeat (first | with_reducible exact Below.refl _ _ | with_reducible apply below_alloc | with_reducible apply below_drw | with_reducible apply below_drew | with_reducible apply below_drewN | with_reducible apply below_plus | with_reducible apply below_set | (simp; done)))), B9.out.below (by first | exact Below.refl _ _ | (repeat (first | with_reducible exact Below.refl _ _ | with_reducible apply below_alloc | with_reducible apply below_drw | with_reducible apply below_drew | with_reducible apply below_drewN | with_reducible apply below_plus | with_reducible apply below_set | (simp; done)))), show Below _ _ _ by first | exact HW.out | exact below_plus HW.out _ _ | (refine HW.out.trans (Below.mono ?_ HW.out.size); repeat (first | with_reducible exact Below.refl _ _ | with_reducible apply below_alloc | with_reducible apply below_drw | with_reducible apply below_drew | with_reducible apply below_drewN | with_reducible apply below_plus | with_reducible apply below_set | (simp; done)))⟩ ?_
          clear B5 B6 B7 B8 B9 HW
          rintro W ⟨B5, B6, B7, B8, B9, HW⟩
          clear D5_0 D5_1 D5_2 D6_0 D6_1 D6_2 ltr5 ltr6
          refine wp_region_any (by kernel_rfl) ?_
          refine region_lastG [(51, .agg #[.int .i64 x, .int .i64 y, .int .i64 q]), (52, .agg #[.int .i64 0, .int .i64 0, .int .i64 0]), (53, .agg #[.int .i64 x, .int .i64 y, .int .i64 q]), (54, .agg #[.int .i64 x, .int .i64 y, .int .i64 q]), (55, .bool false), (56, .bool false), (57, .agg #[.int .i64 0, .int .i64 0, .int .i64 0]), (58, .agg #[.int .i64 x, .int .i64 y, .int .i64 q]), (59, .agg #[.int .i64 x, .int .i64 y, .int .i64 q]), (60, .agg #[.int .i64 x, .int .i64 y, .int .i64 q]), (61, .bool false)] [(56, false)] _ _ (by kernel_rfl) (by kernel_rfl) ?_ ?_ _ rfl ?_
          · simp only [putAll, Act.put, List.setIfInBounds_toArray, List.set_cons_succ, List.set_cons_zero]
            intro gQ hgQ
            simp only [List.mem_cons, List.not_mem_nil, or_false] at hgQ
            subst hgQ
            rfl
          · simp only [putAll, Act.put, List.setIfInBounds_toArray, List.set_cons_succ, List.set_cons_zero]
            refine allG_cons (pure_load3 _ r5 _ _ _ rfl rfl (B5.out.blocks rfl) rfl) (by kernel_rfl) ?_
            refine allG_cons (by refine pure_quiet fun aQ osQ dQ hgQ => ?_; have hcQ : ∀ v, aQ.eval (.const v) = v := fun _ => rfl; generalize aQ.eval = rQ at hcQ; clear hgQ; simp [execOp, hcQ, resolve, invoke, builtin, go_sem, *] <;> rfl) (by kernel_rfl) ?_
            refine allG_cons (pure_call _ _ _ _ comp_enters rfl rfl (fun os d => R1.out _)) (by kernel_rfl) ?_
            refine allG_cons (pure_load3 _ r5 _ _ _ rfl rfl (B5.out.blocks rfl) rfl) (by kernel_rfl) ?_
            refine allG_cons (by refine pure_quiet fun aQ osQ dQ hgQ => ?_; have h1Q : aQ.eval (.tmp 53) = .agg #[.int .i64 x, .int .i64 y, .int .i64 q] := hgQ (.tmp 53) (by simp [Op.operands, Call.operands]); have h2Q : aQ.eval (.tmp 54) = .agg #[.int .i64 x, .int .i64 y, .int .i64 q] := hgQ (.tmp 54) (by simp [Op.operands, Call.operands]); have hcQ : ∀ v, aQ.eval (.const v) = v := fun _ => rfl; generalize aQ.eval = rQ at h1Q h2Q hcQ; clear hgQ; simp [execOp, h1Q, h2Q, hcQ, resolve, invoke, builtin, go_sem, *] <;> rfl) (by kernel_rfl) ?_
            refine allG_cons (pure_move _ (.inl rfl) rfl) (by kernel_rfl) ?_
            refine allG_cons (by refine pure_quiet fun aQ osQ dQ hgQ => ?_; have hcQ : ∀ v, aQ.eval (.const v) = v := fun _ => rfl; generalize aQ.eval = rQ at hcQ; clear hgQ; simp [execOp, hcQ, resolve, invoke, builtin, go_sem, *] <;> rfl) (by kernel_rfl) ?_
            refine allG_cons (pure_load3 _ r5 _ _ _ rfl rfl (B5.out.blocks rfl) rfl) (by kernel_rfl) ?_
            refine allG_cons (pure_call _ _ _ _ comp_enters rfl rfl (fun os d => R2.out _)) (by kernel_rfl) ?_
            refine allG_cons (pure_load3 _ r5 _ _ _ rfl rfl (B5.out.blocks rfl) rfl) (by kernel_rfl) ?_
            refine allG_cons (by refine pure_quiet fun aQ osQ dQ hgQ => ?_; have h1Q : aQ.eval (.tmp 59) = .agg #[.int .i64 x, .int .i64 y, .int .i64 q] := hgQ (.tmp 59) (by simp [Op.operands, Call.operands]); have h2Q : aQ.eval (.tmp 60) = .agg #[.int .i64 x, .int .i64 y, .int .i64 q] := hgQ (.tmp 60) (by simp [Op.operands, Call.operands]); have hcQ : ∀ v, aQ.eval (.const v) = v := fun _ => rfl; generalize aQ.eval = rQ at h1Q h2Q hcQ; clear hgQ; simp [execOp, h1Q, h2Q, hcQ, resolve, invoke, builtin, go_sem, *] <;> rfl) (by kernel_rfl) ?_
            exact True.intro
          · intro osL dL
            simp only [putAll, Act.put, List.setIfInBounds_toArray, List.set_cons_succ, List.set_cons_zero]
            refine last_quiet3 62 (.bool false) (.tmp 56) (.tmp 61) _ _ rfl rfl rfl (fun ρ hc h1 h2 => by simp [execOp, h1, h2, hc, go_sem]) ?_
            simp only [Act.put, List.setIfInBounds_toArray, List.set_cons_succ, List.set_cons_zero]
            show Exit.then _ _ Exit.normal _ (plus W osL dL)
            have B5 := Lib.hid (B5.out.below (below_plus (Below.refl _ _) osL dL))
            have B6 := Lib.hid (B6.out.below (below_plus (Below.refl _ _) osL dL))
            have B7 := Lib.hid (B7.out.below (below_plus (Below.refl _ _) osL dL))
            have B8 := Lib.hid (B8.out.below (below_plus (Below.refl _ _) osL dL))
            have B9 := Lib.hid (B9.out.below (below_plus (Below.refl _ _) osL dL))
            have HW := Lib.hid (below_plus HW.out osL dL)
            clear R1 R2
            generalize plus W osL dL = W2 at B5 B6 B7 B8 B9 HW ⊢
            go_wp2
            refine wp_forget (fun W => Hid (BoxF W r5 x y q) ∧ Hid (BoxF W r6 x' y' q') ∧ Hid (BoxF W r7 k l m) ∧ Hid (BoxP W r8 px py) ∧ Hid (BoxF W r9 X Y Q) ∧ Hid (Below w.heap.size w W)) ⟨B5.out.below (by first | exact Below.refl _ _ | (repeat (first | with_reducible exact Below.refl _ _ | with_reducible apply below_alloc | with_reducible apply below_drw | with_reducible apply below_drew | with_reducible apply below_drewN | with_reducible apply below_plus | with_reducible apply below_set | (simp; done)))), B6.out.below (by first | exact Below.refl _ _ | (repeat (first | with_reducible exact Below.refl _ _ | with_reducible apply below_alloc | with_reducible apply below_drw | with_reducible apply below_drew | with_reducible apply below_drewN | with_reducible apply below_plus | with_reducible apply below_set | (simp; done)))), B7.out.below (by first | exact Below.refl _ _ | (repeat (first | with_reducible exact Below.refl _ _ | with_reducible apply below_alloc | with_reducible apply below_drw | with_reducible apply below_drew | with_reducible apply below_drewN | with_reducible apply below_plus | with_reducible apply below_set | (simp; done)))), B8.out.below (by first | exact Below.refl _ _ | (repeat (first | with_reducible exact Below.refl _ _ | with_reducible apply below_alloc | with_reducible apply below_drw | with_reducible apply below_drew | with_reducible apply below_drewN | with_reducible apply below_plus | with_reducible apply below_set | (simp; done)))), B9.out.below (by first | exact Below.refl _ _ | (repeat (first | with_reducible exact Below.refl _ _ | with_reducible apply below_alloc | with_reducible apply below_drw | with_reducible apply below_drew | with_reducible apply below_drewN | with_reducible apply below_plus | with_reducible apply below_set | (simp; done)))), show Below _ _ _ by first | exact HW.out | exact below_plus HW.out _ _ | (refine HW.out.trans (Below.mono ?_ HW.out.size); repeat (first | with_reducible exact Below.refl _ _ | with_reducible apply below_alloc | with_reducible apply below_drw | with_reducible apply below_drew | with_reducible apply below_drewN | with_reducible apply below_plus | with_reducible apply below_set | (simp; done)))⟩ ?_
            clear B5 B6 B7 B8 B9 HW
            rintro W ⟨B5, B6, B7, B8, B9, HW⟩
            obtain ⟨w2, w3, w4, w5, w6⟩ := WR.out
            by_cases hS : 1000000 < A1 + A2 + A3 + A4 + A5 + A6
            · clear K1 K2 K3 J1 J2 JI
              refine wp_region_any (by kernel_rfl) ?_
              refine region_lastG [(63, .pointer (some ⟨r5, 0, none⟩)), (64, .int .i64 x), (65, .int .i64 (A1)), (66, .pointer (some ⟨r6, 0, none⟩)), (67, .int .i64 x'), (68, .int .i64 (A2)), (69, .int .i64 (A1 + A2)), (70, .pointer (some ⟨r7, 0, none⟩)), (71, .int .i64 k), (72, .int .i64 (A3)), (73, .int .i64 (A1 + A2 + A3)), (74, .pointer (some ⟨r5, 1, none⟩)), (75, .int .i64 y), (76, .int .i64 (A4)), (77, .int .i64 (A1 + A2 + A3 + A4)), (78, .pointer (some ⟨r6, 1, none⟩)), (79, .int .i64 y'), (80, .int .i64 (A5)), (81, .int .i64 (A1 + A2 + A3 + A4 + A5)), (82, .pointer (some ⟨r7, 1, none⟩)), (83, .int .i64 l), (84, .int .i64 (A6)), (85, .int .i64 (A1 + A2 + A3 + A4 + A5 + A6)), (86, .bool true), (87, .bool true)] [(87, true)] _ _ (by kernel_rfl) (by kernel_rfl) ?_ ?_ _ rfl ?_
              · simp only [putAll, Act.put, List.setIfInBounds_toArray, List.set_cons_succ, List.set_cons_zero]
                intro gQ hgQ
                simp only [List.mem_cons, List.not_mem_nil, or_false] at hgQ
                subst hgQ
                rfl
              · simp only [putAll, Act.put, List.setIfInBounds_toArray, List.set_cons_succ, List.set_cons_zero]
                refine allG_cons (by refine pure_quiet fun aQ osQ dQ hgQ => ?_; have h1Q : aQ.eval (.tmp 5) = .pointer (some ⟨r5, 0, none⟩) := hgQ (.tmp 5) (by simp [Op.operands, Call.operands]); have hcQ : ∀ v, aQ.eval (.const v) = v := fun _ => rfl; generalize aQ.eval = rQ at h1Q hcQ; clear hgQ; simp [execOp, h1Q, hcQ, resolve, invoke, builtin, go_sem, *] <;> rfl) (by kernel_rfl) ?_
                refine allG_cons (pure_load1 _ r5 0 _ rfl rfl B5.out.lt B5.out.c0 rfl) (by kernel_rfl) ?_
                refine allG_cons (pure_call _ _ _ _ abs_enters rfl rfl (fun os d => H1.out _)) (by kernel_rfl) ?_
                refine allG_cons (by refine pure_quiet fun aQ osQ dQ hgQ => ?_; have h1Q : aQ.eval (.tmp 6) = .pointer (some ⟨r6, 0, none⟩) := hgQ (.tmp 6) (by simp [Op.operands, Call.operands]); have hcQ : ∀ v, aQ.eval (.const v) = v := fun _ => rfl; generalize aQ.eval = rQ at h1Q hcQ; clear hgQ; simp [execOp, h1Q, hcQ, resolve, invoke, builtin, go_sem, *] <;> rfl) (by kernel_rfl) ?_
                refine allG_cons (pure_load1 _ r6 0 _ rfl rfl B6.out.lt B6.out.c0 rfl) (by kernel_rfl) ?_
                refine allG_cons (pure_call _ _ _ _ abs_enters rfl rfl (fun os d => H2.out _)) (by kernel_rfl) ?_
                refine allG_cons (by refine pure_quiet fun aQ osQ dQ hgQ => ?_; have h1Q : aQ.eval (.tmp 65) = .int .i64 (A1) := hgQ (.tmp 65) (by simp [Op.operands, Call.operands]); have h2Q : aQ.eval (.tmp 68) = .int .i64 (A2) := hgQ (.tmp 68) (by simp [Op.operands, Call.operands]); have hcQ : ∀ v, aQ.eval (.const v) = v := fun _ => rfl; generalize aQ.eval = rQ at h1Q h2Q hcQ; clear hgQ; simp [execOp, h1Q, h2Q, hcQ, resolve, invoke, builtin, go_sem, *] <;> rfl) (by kernel_rfl) ?_
                refine allG_cons (by refine pure_quiet fun aQ osQ dQ hgQ => ?_; have h1Q : aQ.eval (.tmp 7) = .pointer (some ⟨r7, 0, none⟩) := hgQ (.tmp 7) (by simp [Op.operands, Call.operands]); have hcQ : ∀ v, aQ.eval (.const v) = v := fun _ => rfl; generalize aQ.eval = rQ at h1Q hcQ; clear hgQ; simp [execOp, h1Q, hcQ, resolve, invoke, builtin, go_sem, *] <;> rfl) (by kernel_rfl) ?_
                refine allG_cons (pure_load1 _ r7 0 _ rfl rfl B7.out.lt B7.out.c0 rfl) (by kernel_rfl) ?_
                refine allG_cons (pure_call _ _ _ _ abs_enters rfl rfl (fun os d => H3.out _)) (by kernel_rfl) ?_
                refine allG_cons (by refine pure_quiet fun aQ osQ dQ hgQ => ?_; have h1Q : aQ.eval (.tmp 69) = .int .i64 (A1 + A2) := hgQ (.tmp 69) (by simp [Op.operands, Call.operands]); have h2Q : aQ.eval (.tmp 72) = .int .i64 (A3) := hgQ (.tmp 72) (by simp [Op.operands, Call.operands]); have hcQ : ∀ v, aQ.eval (.const v) = v := fun _ => rfl; generalize aQ.eval = rQ at h1Q h2Q hcQ; clear hgQ; simp [execOp, h1Q, h2Q, hcQ, resolve, invoke, builtin, go_sem, *] <;> rfl) (by kernel_rfl) ?_
                refine allG_cons (by refine pure_quiet fun aQ osQ dQ hgQ => ?_; have h1Q : aQ.eval (.tmp 5) = .pointer (some ⟨r5, 0, none⟩) := hgQ (.tmp 5) (by simp [Op.operands, Call.operands]); have hcQ : ∀ v, aQ.eval (.const v) = v := fun _ => rfl; generalize aQ.eval = rQ at h1Q hcQ; clear hgQ; simp [execOp, h1Q, hcQ, resolve, invoke, builtin, go_sem, *] <;> rfl) (by kernel_rfl) ?_
                refine allG_cons (pure_load1 _ r5 1 _ rfl rfl B5.out.lt B5.out.c1 rfl) (by kernel_rfl) ?_
                refine allG_cons (pure_call _ _ _ _ abs_enters rfl rfl (fun os d => H4.out _)) (by kernel_rfl) ?_
                refine allG_cons (by refine pure_quiet fun aQ osQ dQ hgQ => ?_; have h1Q : aQ.eval (.tmp 73) = .int .i64 (A1 + A2 + A3) := hgQ (.tmp 73) (by simp [Op.operands, Call.operands]); have h2Q : aQ.eval (.tmp 76) = .int .i64 (A4) := hgQ (.tmp 76) (by simp [Op.operands, Call.operands]); have hcQ : ∀ v, aQ.eval (.const v) = v := fun _ => rfl; generalize aQ.eval = rQ at h1Q h2Q hcQ; clear hgQ; simp [execOp, h1Q, h2Q, hcQ, resolve, invoke, builtin, go_sem, *] <;> rfl) (by kernel_rfl) ?_
                refine allG_cons (by refine pure_quiet fun aQ osQ dQ hgQ => ?_; have h1Q : aQ.eval (.tmp 6) = .pointer (some ⟨r6, 0, none⟩) := hgQ (.tmp 6) (by simp [Op.operands, Call.operands]); have hcQ : ∀ v, aQ.eval (.const v) = v := fun _ => rfl; generalize aQ.eval = rQ at h1Q hcQ; clear hgQ; simp [execOp, h1Q, hcQ, resolve, invoke, builtin, go_sem, *] <;> rfl) (by kernel_rfl) ?_
                refine allG_cons (pure_load1 _ r6 1 _ rfl rfl B6.out.lt B6.out.c1 rfl) (by kernel_rfl) ?_
                refine allG_cons (pure_call _ _ _ _ abs_enters rfl rfl (fun os d => H5.out _)) (by kernel_rfl) ?_
                refine allG_cons (by refine pure_quiet fun aQ osQ dQ hgQ => ?_; have h1Q : aQ.eval (.tmp 77) = .int .i64 (A1 + A2 + A3 + A4) := hgQ (.tmp 77) (by simp [Op.operands, Call.operands]); have h2Q : aQ.eval (.tmp 80) = .int .i64 (A5) := hgQ (.tmp 80) (by simp [Op.operands, Call.operands]); have hcQ : ∀ v, aQ.eval (.const v) = v := fun _ => rfl; generalize aQ.eval = rQ at h1Q h2Q hcQ; clear hgQ; simp [execOp, h1Q, h2Q, hcQ, resolve, invoke, builtin, go_sem, *] <;> rfl) (by kernel_rfl) ?_
                refine allG_cons (by refine pure_quiet fun aQ osQ dQ hgQ => ?_; have h1Q : aQ.eval (.tmp 7) = .pointer (some ⟨r7, 0, none⟩) := hgQ (.tmp 7) (by simp [Op.operands, Call.operands]); have hcQ : ∀ v, aQ.eval (.const v) = v := fun _ => rfl; generalize aQ.eval = rQ at h1Q hcQ; clear hgQ; simp [execOp, h1Q, hcQ, resolve, invoke, builtin, go_sem, *] <;> rfl) (by kernel_rfl) ?_
                refine allG_cons (pure_load1 _ r7 1 _ rfl rfl B7.out.lt B7.out.c1 rfl) (by kernel_rfl) ?_
                refine allG_cons (pure_call _ _ _ _ abs_enters rfl rfl (fun os d => H6.out _)) (by kernel_rfl) ?_
                refine allG_cons (by refine pure_quiet fun aQ osQ dQ hgQ => ?_; have h1Q : aQ.eval (.tmp 81) = .int .i64 (A1 + A2 + A3 + A4 + A5) := hgQ (.tmp 81) (by simp [Op.operands, Call.operands]); have h2Q : aQ.eval (.tmp 84) = .int .i64 (A6) := hgQ (.tmp 84) (by simp [Op.operands, Call.operands]); have hcQ : ∀ v, aQ.eval (.const v) = v := fun _ => rfl; generalize aQ.eval = rQ at h1Q h2Q hcQ; clear hgQ; simp [execOp, h1Q, h2Q, hcQ, resolve, invoke, builtin, go_sem, *] <;> rfl) (by kernel_rfl) ?_
                refine allG_cons (by refine pure_quiet fun aQ osQ dQ hgQ => ?_; have h1Q : aQ.eval (.tmp 85) = .int .i64 (A1 + A2 + A3 + A4 + A5 + A6) := hgQ (.tmp 85) (by simp [Op.operands, Call.operands]); have hcQ : ∀ v, aQ.eval (.const v) = v := fun _ => rfl; generalize aQ.eval = rQ at h1Q hcQ; clear hgQ; simp [execOp, h1Q, hcQ, resolve, invoke, builtin, go_sem, *] <;> rfl) (by kernel_rfl) ?_
                refine allG_cons (pure_move _ (.inl rfl) rfl) (by kernel_rfl) ?_
                refine allG_skip (by kernel_rfl) rfl ?_
                refine allG_skip (by kernel_rfl) rfl ?_
                refine allG_skip (by kernel_rfl) rfl ?_
                exact True.intro
              · intro osL dL
                simp only [putAll, Act.put, List.setIfInBounds_toArray, List.set_cons_succ, List.set_cons_zero]
                refine last_quiet3 91 (.bool true) (.tmp 87) (.tmp 90) _ _ rfl rfl rfl (fun ρ hc h1 h2 => by simp [execOp, h1, h2, hc, go_sem]) ?_
                simp only [Act.put, List.setIfInBounds_toArray, List.set_cons_succ, List.set_cons_zero]
                show Exit.then _ _ Exit.normal _ (plus W osL dL)
                go_wp2
                go_ret
                exact ⟨rfl, up_of_below (by first | exact HW.out | exact below_plus HW.out _ _)⟩
            · have HC := Lib.hid (fun W => sFrameValid_any k l m W)
              have hS' : A1 + A2 + A3 + A4 + A5 + A6 ≤ 1000000 := by omega
              cases hc : frB k l m
              · rw [hc] at HC
                clear K1 K2 K3 J1 J2 JI
                refine wp_region_any (by kernel_rfl) ?_
                refine region_lastG [(63, .pointer (some ⟨r5, 0, none⟩)), (64, .int .i64 x), (65, .int .i64 (A1)), (66, .pointer (some ⟨r6, 0, none⟩)), (67, .int .i64 x'), (68, .int .i64 (A2)), (69, .int .i64 (A1 + A2)), (70, .pointer (some ⟨r7, 0, none⟩)), (71, .int .i64 k), (72, .int .i64 (A3)), (73, .int .i64 (A1 + A2 + A3)), (74, .pointer (some ⟨r5, 1, none⟩)), (75, .int .i64 y), (76, .int .i64 (A4)), (77, .int .i64 (A1 + A2 + A3 + A4)), (78, .pointer (some ⟨r6, 1, none⟩)), (79, .int .i64 y'), (80, .int .i64 (A5)), (81, .int .i64 (A1 + A2 + A3 + A4 + A5)), (82, .pointer (some ⟨r7, 1, none⟩)), (83, .int .i64 l), (84, .int .i64 (A6)), (85, .int .i64 (A1 + A2 + A3 + A4 + A5 + A6)), (86, .bool false), (87, .bool false), (88, .agg #[.int .i64 k, .int .i64 l, .int .i64 m]), (89, .bool false), (90, .bool true)] [(87, false)] _ _ (by kernel_rfl) (by kernel_rfl) ?_ ?_ _ rfl ?_
                · simp only [putAll, Act.put, List.setIfInBounds_toArray, List.set_cons_succ, List.set_cons_zero]
                  intro gQ hgQ
                  simp only [List.mem_cons, List.not_mem_nil, or_false] at hgQ
                  subst hgQ
                  rfl
                · simp only [putAll, Act.put, List.setIfInBounds_toArray, List.set_cons_succ, List.set_cons_zero]
                  refine allG_cons (by refine pure_quiet fun aQ osQ dQ hgQ => ?_; have h1Q : aQ.eval (.tmp 5) = .pointer (some ⟨r5, 0, none⟩) := hgQ (.tmp 5) (by simp [Op.operands, Call.operands]); have hcQ : ∀ v, aQ.eval (.const v) = v := fun _ => rfl; generalize aQ.eval = rQ at h1Q hcQ; clear hgQ; simp [execOp, h1Q, hcQ, resolve, invoke, builtin, go_sem, *] <;> rfl) (by kernel_rfl) ?_
                  refine allG_cons (pure_load1 _ r5 0 _ rfl rfl B5.out.lt B5.out.c0 rfl) (by kernel_rfl) ?_
                  refine allG_cons (pure_call _ _ _ _ abs_enters rfl rfl (fun os d => H1.out _)) (by kernel_rfl) ?_
                  refine allG_cons (by refine pure_quiet fun aQ osQ dQ hgQ => ?_; have h1Q : aQ.eval (.tmp 6) = .pointer (some ⟨r6, 0, none⟩) := hgQ (.tmp 6) (by simp [Op.operands, Call.operands]); have hcQ : ∀ v, aQ.eval (.const v) = v := fun _ => rfl; generalize aQ.eval = rQ at h1Q hcQ; clear hgQ; simp [execOp, h1Q, hcQ, resolve, invoke, builtin, go_sem, *] <;> rfl) (by kernel_rfl) ?_
                  refine allG_cons (pure_load1 _ r6 0 _ rfl rfl B6.out.lt B6.out.c0 rfl) (by kernel_rfl) ?_
                  refine allG_cons (pure_call _ _ _ _ abs_enters rfl rfl (fun os d => H2.out _)) (by kernel_rfl) ?_
                  refine allG_cons (by refine pure_quiet fun aQ osQ dQ hgQ => ?_; have h1Q : aQ.eval (.tmp 65) = .int .i64 (A1) := hgQ (.tmp 65) (by simp [Op.operands, Call.operands]); have h2Q : aQ.eval (.tmp 68) = .int .i64 (A2) := hgQ (.tmp 68) (by simp [Op.operands, Call.operands]); have hcQ : ∀ v, aQ.eval (.const v) = v := fun _ => rfl; generalize aQ.eval = rQ at h1Q h2Q hcQ; clear hgQ; simp [execOp, h1Q, h2Q, hcQ, resolve, invoke, builtin, go_sem, *] <;> rfl) (by kernel_rfl) ?_
                  refine allG_cons (by refine pure_quiet fun aQ osQ dQ hgQ => ?_; have h1Q : aQ.eval (.tmp 7) = .pointer (some ⟨r7, 0, none⟩) := hgQ (.tmp 7) (by simp [Op.operands, Call.operands]); have hcQ : ∀ v, aQ.eval (.const v) = v := fun _ => rfl; generalize aQ.eval = rQ at h1Q hcQ; clear hgQ; simp [execOp, h1Q, hcQ, resolve, invoke, builtin, go_sem, *] <;> rfl) (by kernel_rfl) ?_
                  refine allG_cons (pure_load1 _ r7 0 _ rfl rfl B7.out.lt B7.out.c0 rfl) (by kernel_rfl) ?_
                  refine allG_cons (pure_call _ _ _ _ abs_enters rfl rfl (fun os d => H3.out _)) (by kernel_rfl) ?_
                  refine allG_cons (by refine pure_quiet fun aQ osQ dQ hgQ => ?_; have h1Q : aQ.eval (.tmp 69) = .int .i64 (A1 + A2) := hgQ (.tmp 69) (by simp [Op.operands, Call.operands]); have h2Q : aQ.eval (.tmp 72) = .int .i64 (A3) := hgQ (.tmp 72) (by simp [Op.operands, Call.operands]); have hcQ : ∀ v, aQ.eval (.const v) = v := fun _ => rfl; generalize aQ.eval = rQ at h1Q h2Q hcQ; clear hgQ; simp [execOp, h1Q, h2Q, hcQ, resolve, invoke, builtin, go_sem, *] <;> rfl) (by kernel_rfl) ?_
                  refine allG_cons (by refine pure_quiet fun aQ osQ dQ hgQ => ?_; have h1Q : aQ.eval (.tmp 5) = .pointer (some ⟨r5, 0, none⟩) := hgQ (.tmp 5) (by simp [Op.operands, Call.operands]); have hcQ : ∀ v, aQ.eval (.const v) = v := fun _ => rfl; generalize aQ.eval = rQ at h1Q hcQ; clear hgQ; simp [execOp, h1Q, hcQ, resolve, invoke, builtin, go_sem, *] <;> rfl) (by kernel_rfl) ?_
                  refine allG_cons (pure_load1 _ r5 1 _ rfl rfl B5.out.lt B5.out.c1 rfl) (by kernel_rfl) ?_
                  refine allG_cons (pure_call _ _ _ _ abs_enters rfl rfl (fun os d => H4.out _)) (by kernel_rfl) ?_
                  refine allG_cons (by refine pure_quiet fun aQ osQ dQ hgQ => ?_; have h1Q : aQ.eval (.tmp 73) = .int .i64 (A1 + A2 + A3) := hgQ (.tmp 73) (by simp [Op.operands, Call.operands]); have h2Q : aQ.eval (.tmp 76) = .int .i64 (A4) := hgQ (.tmp 76) (by simp [Op.operands, Call.operands]); have hcQ : ∀ v, aQ.eval (.const v) = v := fun _ => rfl; generalize aQ.eval = rQ at h1Q h2Q hcQ; clear hgQ; simp [execOp, h1Q, h2Q, hcQ, resolve, invoke, builtin, go_sem, *] <;> rfl) (by kernel_rfl) ?_
                  refine allG_cons (by refine pure_quiet fun aQ osQ dQ hgQ => ?_; have h1Q : aQ.eval (.tmp 6) = .pointer (some ⟨r6, 0, none⟩) := hgQ (.tmp 6) (by simp [Op.operands, Call.operands]); have hcQ : ∀ v, aQ.eval (.const v) = v := fun _ => rfl; generalize aQ.eval = rQ at h1Q hcQ; clear hgQ; simp [execOp, h1Q, hcQ, resolve, invoke, builtin, go_sem, *] <;> rfl) (by kernel_rfl) ?_
                  refine allG_cons (pure_load1 _ r6 1 _ rfl rfl B6.out.lt B6.out.c1 rfl) (by kernel_rfl) ?_
                  refine allG_cons (pure_call _ _ _ _ abs_enters rfl rfl (fun os d => H5.out _)) (by kernel_rfl) ?_
                  refine allG_cons (by refine pure_quiet fun aQ osQ dQ hgQ => ?_; have h1Q : aQ.eval (.tmp 77) = .int .i64 (A1 + A2 + A3 + A4) := hgQ (.tmp 77) (by simp [Op.operands, Call.operands]); have h2Q : aQ.eval (.tmp 80) = .int .i64 (A5) := hgQ (.tmp 80) (by simp [Op.operands, Call.operands]); have hcQ : ∀ v, aQ.eval (.const v) = v := fun _ => rfl; generalize aQ.eval = rQ at h1Q h2Q hcQ; clear hgQ; simp [execOp, h1Q, h2Q, hcQ, resolve, invoke, builtin, go_sem, *] <;> rfl) (by kernel_rfl) ?_
                  refine allG_cons (by refine pure_quiet fun aQ osQ dQ hgQ => ?_; have h1Q : aQ.eval (.tmp 7) = .pointer (some ⟨r7, 0, none⟩) := hgQ (.tmp 7) (by simp [Op.operands, Call.operands]); have hcQ : ∀ v, aQ.eval (.const v) = v := fun _ => rfl; generalize aQ.eval = rQ at h1Q hcQ; clear hgQ; simp [execOp, h1Q, hcQ, resolve, invoke, builtin, go_sem, *] <;> rfl) (by kernel_rfl) ?_
                  refine allG_cons (pure_load1 _ r7 1 _ rfl rfl B7.out.lt B7.out.c1 rfl) (by kernel_rfl) ?_
                  refine allG_cons (pure_call _ _ _ _ abs_enters rfl rfl (fun os d => H6.out _)) (by kernel_rfl) ?_
                  refine allG_cons (by refine pure_quiet fun aQ osQ dQ hgQ => ?_; have h1Q : aQ.eval (.tmp 81) = .int .i64 (A1 + A2 + A3 + A4 + A5) := hgQ (.tmp 81) (by simp [Op.operands, Call.operands]); have h2Q : aQ.eval (.tmp 84) = .int .i64 (A6) := hgQ (.tmp 84) (by simp [Op.operands, Call.operands]); have hcQ : ∀ v, aQ.eval (.const v) = v := fun _ => rfl; generalize aQ.eval = rQ at h1Q h2Q hcQ; clear hgQ; simp [execOp, h1Q, h2Q, hcQ, resolve, invoke, builtin, go_sem, *] <;> rfl) (by kernel_rfl) ?_
                  refine allG_cons (by refine pure_quiet fun aQ osQ dQ hgQ => ?_; have h1Q : aQ.eval (.tmp 85) = .int .i64 (A1 + A2 + A3 + A4 + A5 + A6) := hgQ (.tmp 85) (by simp [Op.operands, Call.operands]); have hcQ : ∀ v, aQ.eval (.const v) = v := fun _ => rfl; generalize aQ.eval = rQ at h1Q hcQ; clear hgQ; simp [execOp, h1Q, hcQ, resolve, invoke, builtin, go_sem, *] <;> rfl) (by kernel_rfl) ?_
                  refine allG_cons (pure_move _ (.inl rfl) rfl) (by kernel_rfl) ?_
                  refine allG_cons (pure_load3 _ r7 _ _ _ rfl rfl (B7.out.blocks rfl) rfl) (by kernel_rfl) ?_
                  refine allG_cons (pure_call _ _ _ _ sval_enters rfl rfl (fun os d => HC.out _)) (by kernel_rfl) ?_
                  refine allG_cons (by refine pure_quiet fun aQ osQ dQ hgQ => ?_; have h1Q : aQ.eval (.tmp 89) = .bool false := hgQ (.tmp 89) (by simp [Op.operands, Call.operands]); have hcQ : ∀ v, aQ.eval (.const v) = v := fun _ => rfl; generalize aQ.eval = rQ at h1Q hcQ; clear hgQ; simp [execOp, h1Q, hcQ, resolve, invoke, builtin, go_sem, *] <;> rfl) (by kernel_rfl) ?_
                  exact True.intro
                · intro osL dL
                  simp only [putAll, Act.put, List.setIfInBounds_toArray, List.set_cons_succ, List.set_cons_zero]
                  refine last_quiet3 91 (.bool true) (.tmp 87) (.tmp 90) _ _ rfl rfl rfl (fun ρ hc h1 h2 => by simp [execOp, h1, h2, hc, go_sem]) ?_
                  simp only [Act.put, List.setIfInBounds_toArray, List.set_cons_succ, List.set_cons_zero]
                  show Exit.then _ _ Exit.normal _ (plus W osL dL)
                  go_wp2
                  go_ret
                  exact ⟨rfl, up_of_below (by first | exact HW.out | exact below_plus HW.out _ _)⟩
              · rw [hc] at HC
                have K1 := Lib.hid (K1.out hS' hc)
                have J1 := Lib.hid (J1.out hS' hc)
                clear hc
                refine wp_region_any (by kernel_rfl) ?_
                refine region_lastG [(63, .pointer (some ⟨r5, 0, none⟩)), (64, .int .i64 x), (65, .int .i64 (A1)), (66, .pointer (some ⟨r6, 0, none⟩)), (67, .int .i64 x'), (68, .int .i64 (A2)), (69, .int .i64 (A1 + A2)), (70, .pointer (some ⟨r7, 0, none⟩)), (71, .int .i64 k), (72, .int .i64 (A3)), (73, .int .i64 (A1 + A2 + A3)), (74, .pointer (some ⟨r5, 1, none⟩)), (75, .int .i64 y), (76, .int .i64 (A4)), (77, .int .i64 (A1 + A2 + A3 + A4)), (78, .pointer (some ⟨r6, 1, none⟩)), (79, .int .i64 y'), (80, .int .i64 (A5)), (81, .int .i64 (A1 + A2 + A3 + A4 + A5)), (82, .pointer (some ⟨r7, 1, none⟩)), (83, .int .i64 l), (84, .int .i64 (A6)), (85, .int .i64 (A1 + A2 + A3 + A4 + A5 + A6)), (86, .bool false), (87, .bool false), (88, .agg #[.int .i64 k, .int .i64 l, .int .i64 m]), (89, .bool true), (90, .bool false)] [(87, false)] _ _ (by kernel_rfl) (by kernel_rfl) ?_ ?_ _ rfl ?_
                · simp only [putAll, Act.put, List.setIfInBounds_toArray, List.set_cons_succ, List.set_cons_zero]
                  intro gQ hgQ
                  simp only [List.mem_cons, List.not_mem_nil, or_false] at hgQ
                  subst hgQ
                  rfl
                · simp only [putAll, Act.put, List.setIfInBounds_toArray, List.set_cons_succ, List.set_cons_zero]
                  refine allG_cons (by refine pure_quiet fun aQ osQ dQ hgQ => ?_; have h1Q : aQ.eval (.tmp 5) = .pointer (some ⟨r5, 0, none⟩) := hgQ (.tmp 5) (by simp [Op.operands, Call.operands]); have hcQ : ∀ v, aQ.eval (.const v) = v := fun _ => rfl; generalize aQ.eval = rQ at h1Q hcQ; clear hgQ; simp [execOp, h1Q, hcQ, resolve, invoke, builtin, go_sem, *] <;> rfl) (by kernel_rfl) ?_
                  refine allG_cons (pure_load1 _ r5 0 _ rfl rfl B5.out.lt B5.out.c0 rfl) (by kernel_rfl) ?_
                  refine allG_cons (pure_call _ _ _ _ abs_enters rfl rfl (fun os d => H1.out _)) (by kernel_rfl) ?_
                  refine allG_cons (by refine pure_quiet fun aQ osQ dQ hgQ => ?_; have h1Q : aQ.eval (.tmp 6) = .pointer (some ⟨r6, 0, none⟩) := hgQ (.tmp 6) (by simp [Op.operands, Call.operands]); have hcQ : ∀ v, aQ.eval (.const v) = v := fun _ => rfl; generalize aQ.eval = rQ at h1Q hcQ; clear hgQ; simp [execOp, h1Q, hcQ, resolve, invoke, builtin, go_sem, *] <;> rfl) (by kernel_rfl) ?_
                  refine allG_cons (pure_load1 _ r6 0 _ rfl rfl B6.out.lt B6.out.c0 rfl) (by kernel_rfl) ?_
                  refine allG_cons (pure_call _ _ _ _ abs_enters rfl rfl (fun os d => H2.out _)) (by kernel_rfl) ?_
                  refine allG_cons (by refine pure_quiet fun aQ osQ dQ hgQ => ?_; have h1Q : aQ.eval (.tmp 65) = .int .i64 (A1) := hgQ (.tmp 65) (by simp [Op.operands, Call.operands]); have h2Q : aQ.eval (.tmp 68) = .int .i64 (A2) := hgQ (.tmp 68) (by simp [Op.operands, Call.operands]); have hcQ : ∀ v, aQ.eval (.const v) = v := fun _ => rfl; generalize aQ.eval = rQ at h1Q h2Q hcQ; clear hgQ; simp [execOp, h1Q, h2Q, hcQ, resolve, invoke, builtin, go_sem, *] <;> rfl) (by kernel_rfl) ?_
                  refine allG_cons (by refine pure_quiet fun aQ osQ dQ hgQ => ?_; have h1Q : aQ.eval (.tmp 7) = .pointer (some ⟨r7, 0, none⟩) := hgQ (.tmp 7) (by simp [Op.operands, Call.operands]); have hcQ : ∀ v, aQ.eval (.const v) = v := fun _ => rfl; generalize aQ.eval = rQ at h1Q hcQ; clear hgQ; simp [execOp, h1Q, hcQ, resolve, invoke, builtin, go_sem, *] <;> rfl) (by kernel_rfl) ?_
                  refine allG_cons (pure_load1 _ r7 0 _ rfl rfl B7.out.lt B7.out.c0 rfl) (by kernel_rfl) ?_
                  refine allG_cons (pure_call _ _ _ _ abs_enters rfl rfl (fun os d => H3.out _)) (by kernel_rfl) ?_
                  refine allG_cons (by refine pure_quiet fun aQ osQ dQ hgQ => ?_; have h1Q : aQ.eval (.tmp 69) = .int .i64 (A1 + A2) := hgQ (.tmp 69) (by simp [Op.operands, Call.operands]); have h2Q : aQ.eval (.tmp 72) = .int .i64 (A3) := hgQ (.tmp 72) (by simp [Op.operands, Call.operands]); have hcQ : ∀ v, aQ.eval (.const v) = v := fun _ => rfl; generalize aQ.eval = rQ at h1Q h2Q hcQ; clear hgQ; simp [execOp, h1Q, h2Q, hcQ, resolve, invoke, builtin, go_sem, *] <;> rfl) (by kernel_rfl) ?_
                  refine allG_cons (by refine pure_quiet fun aQ osQ dQ hgQ => ?_; have h1Q : aQ.eval (.tmp 5) = .pointer (some ⟨r5, 0, none⟩) := hgQ (.tmp 5) (by simp [Op.operands, Call.operands]); have hcQ : ∀ v, aQ.eval (.const v) = v := fun _ => rfl; generalize aQ.eval = rQ at h1Q hcQ; clear hgQ; simp [execOp, h1Q, hcQ, resolve, invoke, builtin, go_sem, *] <;> rfl) (by kernel_rfl) ?_
                  refine allG_cons (pure_load1 _ r5 1 _ rfl rfl B5.out.lt B5.out.c1 rfl) (by kernel_rfl) ?_
                  refine allG_cons (pure_call _ _ _ _ abs_enters rfl rfl (fun os d => H4.out _)) (by kernel_rfl) ?_
                  refine allG_cons (by refine pure_quiet fun aQ osQ dQ hgQ => ?_; have h1Q : aQ.eval (.tmp 73) = .int .i64 (A1 + A2 + A3) := hgQ (.tmp 73) (by simp [Op.operands, Call.operands]); have h2Q : aQ.eval (.tmp 76) = .int .i64 (A4) := hgQ (.tmp 76) (by simp [Op.operands, Call.operands]); have hcQ : ∀ v, aQ.eval (.const v) = v := fun _ => rfl; generalize aQ.eval = rQ at h1Q h2Q hcQ; clear hgQ; simp [execOp, h1Q, h2Q, hcQ, resolve, invoke, builtin, go_sem, *] <;> rfl) (by kernel_rfl) ?_
                  refine allG_cons (by refine pure_quiet fun aQ osQ dQ hgQ => ?_; have h1Q : aQ.eval (.tmp 6) = .pointer (some ⟨r6, 0, none⟩) := hgQ (.tmp 6) (by simp [Op.operands, Call.operands]); have hcQ : ∀ v, aQ.eval (.const v) = v := fun _ => rfl; generalize aQ.eval = rQ at h1Q hcQ; clear hgQ; simp [execOp, h1Q, hcQ, resolve, invoke, builtin, go_sem, *] <;> rfl) (by kernel_rfl) ?_
                  refine allG_cons (pure_load1 _ r6 1 _ rfl rfl B6.out.lt B6.out.c1 rfl) (by kernel_rfl) ?_
                  refine allG_cons (pure_call _ _ _ _ abs_enters rfl rfl (fun os d => H5.out _)) (by kernel_rfl) ?_
                  refine allG_cons (by refine pure_quiet fun aQ osQ dQ hgQ => ?_; have h1Q : aQ.eval (.tmp 77) = .int .i64 (A1 + A2 + A3 + A4) := hgQ (.tmp 77) (by simp [Op.operands, Call.operands]); have h2Q : aQ.eval (.tmp 80) = .int .i64 (A5) := hgQ (.tmp 80) (by simp [Op.operands, Call.operands]); have hcQ : ∀ v, aQ.eval (.const v) = v := fun _ => rfl; generalize aQ.eval = rQ at h1Q h2Q hcQ; clear hgQ; simp [execOp, h1Q, h2Q, hcQ, resolve, invoke, builtin, go_sem, *] <;> rfl) (by kernel_rfl) ?_
                  refine allG_cons (by refine pure_quiet fun aQ osQ dQ hgQ => ?_; have h1Q : aQ.eval (.tmp 7) = .pointer (some ⟨r7, 0, none⟩) := hgQ (.tmp 7) (by simp [Op.operands, Call.operands]); have hcQ : ∀ v, aQ.eval (.const v) = v := fun _ => rfl; generalize aQ.eval = rQ at h1Q hcQ; clear hgQ; simp [execOp, h1Q, hcQ, resolve, invoke, builtin, go_sem, *] <;> rfl) (by kernel_rfl) ?_
                  refine allG_cons (pure_load1 _ r7 1 _ rfl rfl B7.out.lt B7.out.c1 rfl) (by kernel_rfl) ?_
                  refine allG_cons (pure_call _ _ _ _ abs_enters rfl rfl (fun os d => H6.out _)) (by kernel_rfl) ?_
                  refine allG_cons (by refine pure_quiet fun aQ osQ dQ hgQ => ?_; have h1Q : aQ.eval (.tmp 81) = .int .i64 (A1 + A2 + A3 + A4 + A5) := hgQ (.tmp 81) (by simp [Op.operands, Call.operands]); have h2Q : aQ.eval (.tmp 84) = .int .i64 (A6) := hgQ (.tmp 84) (by simp [Op.operands, Call.operands]); have hcQ : ∀ v, aQ.eval (.const v) = v := fun _ => rfl; generalize aQ.eval = rQ at h1Q h2Q hcQ; clear hgQ; simp [execOp, h1Q, h2Q, hcQ, resolve, invoke, builtin, go_sem, *] <;> rfl) (by kernel_rfl) ?_
                  refine allG_cons (by refine pure_quiet fun aQ osQ dQ hgQ => ?_; have h1Q : aQ.eval (.tmp 85) = .int .i64 (A1 + A2 + A3 + A4 + A5 + A6) := hgQ (.tmp 85) (by simp [Op.operands, Call.operands]); have hcQ : ∀ v, aQ.eval (.const v) = v := fun _ => rfl; generalize aQ.eval = rQ at h1Q hcQ; clear hgQ; simp [execOp, h1Q, hcQ, resolve, invoke, builtin, go_sem, *] <;> rfl) (by kernel_rfl) ?_
                  refine allG_cons (pure_move _ (.inl rfl) rfl) (by kernel_rfl) ?_
                  refine allG_cons (pure_load3 _ r7 _ _ _ rfl rfl (B7.out.blocks rfl) rfl) (by kernel_rfl) ?_
                  refine allG_cons (pure_call _ _ _ _ sval_enters rfl rfl (fun os d => HC.out _)) (by kernel_rfl) ?_
                  refine allG_cons (by refine pure_quiet fun aQ osQ dQ hgQ => ?_; have h1Q : aQ.eval (.tmp 89) = .bool true := hgQ (.tmp 89) (by simp [Op.operands, Call.operands]); have hcQ : ∀ v, aQ.eval (.const v) = v := fun _ => rfl; generalize aQ.eval = rQ at h1Q hcQ; clear hgQ; simp [execOp, h1Q, hcQ, resolve, invoke, builtin, go_sem, *] <;> rfl) (by kernel_rfl) ?_
                  exact True.intro
                · intro osL dL
                  simp only [putAll, Act.put, List.setIfInBounds_toArray, List.set_cons_succ, List.set_cons_zero]
                  refine last_quiet3 91 (.bool false) (.tmp 87) (.tmp 90) _ _ rfl rfl rfl (fun ρ hc h1 h2 => by simp [execOp, h1, h2, hc, go_sem]) ?_
                  simp only [Act.put, List.setIfInBounds_toArray, List.set_cons_succ, List.set_cons_zero]
                  show Exit.then _ _ Exit.normal _ (plus W osL dL)
                  have D6_0 := (plus_cell (os := osL) (d := dL) r6 0 B6.out.lt).trans B6.out.c0
                  have D6_1 := (plus_cell (os := osL) (d := dL) r6 1 B6.out.lt).trans B6.out.c1
                  have D6_2 := (plus_cell (os := osL) (d := dL) r6 2 B6.out.lt).trans B6.out.c2
                  have D8_0 := (plus_cell (os := osL) (d := dL) r8 0 B8.out.lt).trans B8.out.c0
                  have D8_1 := (plus_cell (os := osL) (d := dL) r8 1 B8.out.lt).trans B8.out.c1
                  have B5 := Lib.hid (B5.out.below (below_plus (Below.refl _ _) osL dL))
                  have B6 := Lib.hid (B6.out.below (below_plus (Below.refl _ _) osL dL))
                  have B7 := Lib.hid (B7.out.below (below_plus (Below.refl _ _) osL dL))
                  have B8 := Lib.hid (B8.out.below (below_plus (Below.refl _ _) osL dL))
                  have B9 := Lib.hid (B9.out.below (below_plus (Below.refl _ _) osL dL))
                  have HW := Lib.hid (below_plus HW.out osL dL)
                  have ltr6 := B6.out.lt
                  have ltr8 := B8.out.lt
                  clear HC H1 H2 H3 H4 H5 H6 WR w2 w3 w4 w5 w6 hS hS'
                  generalize plus W osL dL = W2 at D6_0 D6_1 D6_2 D8_0 D8_1 B5 B6 B7 B8 B9 HW ltr6 ltr8 ⊢
                  go_wp2_with fail
                  refine (JI.out _).mono ?_
                  rintro e w1 ⟨rfl, os4, d4, rfl⟩
                  go_wp2
                  refine wp_forget (fun W => Hid (BoxF W r5 x y q) ∧ Hid (BoxF W r6 x' y' q') ∧ Hid (BoxF W r7 k l m) ∧ Hid (BoxP W r8 px py) ∧ Hid (BoxF W r9 X Y Q) ∧ Hid (BoxP W (W2.heap.size + os4.size) ix iy) ∧ Hid (Below w.heap.size w W)) ⟨B5.out.below (by first | exact Below.refl _ _ | (repeat (first | with_reducible exact Below.refl _ _ | with_reducible apply below_alloc | with_reducible apply below_drw | with_reducible apply below_drew | with_reducible apply below_drewN | with_reducible apply below_plus | with_reducible apply below_set | (simp; done)))), B6.out.below (by first | exact Below.refl _ _ | (repeat (first | with_reducible exact Below.refl _ _ | with_reducible apply below_alloc | with_reducible apply below_drw | with_reducible apply below_drew | with_reducible apply below_drewN | with_reducible apply below_plus | with_reducible apply below_set | (simp; done)))), B7.out.below (by first | exact Below.refl _ _ | (repeat (first | with_reducible exact Below.refl _ _ | with_reducible apply below_alloc | with_reducible apply below_drw | with_reducible apply below_drew | with_reducible apply below_drewN | with_reducible apply below_plus | with_reducible apply below_set | (simp; done)))), B8.out.below (by first | exact Below.refl _ _ | (repeat (first | with_reducible exact Below.refl _ _ | with_reducible apply below_alloc | with_reducible apply below_drw | with_reducible apply below_drew | with_reducible apply below_drewN | with_reducible apply below_plus | with_reducible apply below_set | (simp; done)))), B9.out.below (by first | exact Below.refl _ _ | (repeat (first | with_reducible exact Below.refl _ _ | with_reducible apply below_alloc | with_reducible apply below_drw | with_reducible apply below_drew | with_reducible apply below_drewN | with_reducible apply below_plus | with_reducible apply below_set | (simp; done)))), ⟨by simp [go_sem], by simp [go_sem], by simp [go_sem]⟩, show Below _ _ _ by first | exact HW.out | exact below_plus HW.out _ _ | (refine HW.out.trans (Below.mono ?_ HW.out.size); repeat (first | with_reducible exact Below.refl _ _ | with_reducible apply below_alloc | with_reducible apply below_drw | with_reducible apply below_drew | with_reducible apply below_drewN | with_reducible apply below_plus | with_reducible apply below_set | (simp; done)))⟩ ?_
                  clear B5 B6 B7 B8 B9 HW
                  rintro W ⟨B5, B6, B7, B8, B9, B10, HW⟩
                  clear D6_0 D6_1 D6_2 D8_0 D8_1 ltr6 ltr8
                  generalize W2.heap.size + os4.size = r10 at B10 ⊢
                  have HP := Lib.hid (fun W => pointValid_any px py W)
                  have HI := Lib.hid (fun W => pointValid_any ix iy W)
                  cases hp : ptB px py
                  · rw [hp] at HP
                    clear hp JI J1 J2 HI
                    refine wp_region_any (by kernel_rfl) ?_
                    refine region_lastG [(95, .agg #[.int .i64 X, .int .i64 Y, .int .i64 Q]), (96, .agg #[.int .i64 k, .int .i64 l, .int .i64 m]), (97, .agg #[.int .i64 T1, .int .i64 T2, .int .i64 T3]), (98, .agg #[.int .i64 x, .int .i64 y, .int .i64 q]), (99, .agg #[.int .i64 x', .int .i64 y', .int .i64 q']), (100, .agg #[.int .i64 k, .int .i64 l, .int .i64 m]), (101, .agg #[.int .i64 U1, .int .i64 U2, .int .i64 U3]), (102, .agg #[.int .i64 T1, .int .i64 T2, .int .i64 T3]), (103, .bool true), (104, .bool true), (105, .agg #[.int .i64 px, .int .i64 py]), (106, .bool false), (107, .bool true), (108, .bool true), (112, .bool true), (113, .bool true), (121, .bool true), (122, .bool true)] [(104, true), (108, true), (113, true)] _ _ (by kernel_rfl) (by kernel_rfl) ?_ ?_ _ rfl ?_
                    · simp only [putAll, Act.put, List.setIfInBounds_toArray, List.set_cons_succ, List.set_cons_zero]
                      intro gQ hgQ
                      simp only [List.mem_cons, List.not_mem_nil, or_false] at hgQ
                      rcases hgQ with rfl | rfl | rfl
                      all_goals rfl
                    · simp only [putAll, Act.put, List.setIfInBounds_toArray, List.set_cons_succ, List.set_cons_zero]
                      refine allG_cons (pure_load3 _ r9 _ _ _ rfl rfl (B9.out.blocks rfl) rfl) (by kernel_rfl) ?_
                      refine allG_cons (pure_load3 _ r7 _ _ _ rfl rfl (B7.out.blocks rfl) rfl) (by kernel_rfl) ?_
                      refine allG_cons (pure_call _ _ _ _ comp_enters rfl rfl (fun os d => K1.out _)) (by kernel_rfl) ?_
                      refine allG_cons (pure_load3 _ r5 _ _ _ rfl rfl (B5.out.blocks rfl) rfl) (by kernel_rfl) ?_
                      refine allG_cons (pure_load3 _ r6 _ _ _ rfl rfl (B6.out.blocks rfl) rfl) (by kernel_rfl) ?_
                      refine allG_cons (pure_load3 _ r7 _ _ _ rfl rfl (B7.out.blocks rfl) rfl) (by kernel_rfl) ?_
                      refine allG_cons (pure_call _ _ _ _ comp_enters rfl rfl (fun os d => K2.out _)) (by kernel_rfl) ?_
                      refine allG_cons (pure_call _ _ _ _ comp_enters rfl rfl (fun os d => K3.out _)) (by kernel_rfl) ?_
                      refine allG_cons (by refine pure_quiet fun aQ osQ dQ hgQ => ?_; have h1Q : aQ.eval (.tmp 97) = .agg #[.int .i64 T1, .int .i64 T2, .int .i64 T3] := hgQ (.tmp 97) (by simp [Op.operands, Call.operands]); have h2Q : aQ.eval (.tmp 102) = .agg #[.int .i64 T1, .int .i64 T2, .int .i64 T3] := hgQ (.tmp 102) (by simp [Op.operands, Call.operands]); have hcQ : ∀ v, aQ.eval (.const v) = v := fun _ => rfl; generalize aQ.eval = rQ at h1Q h2Q hcQ; clear hgQ; simp [execOp, h1Q, h2Q, hcQ, resolve, invoke, builtin, go_sem, *] <;> rfl) (by kernel_rfl) ?_
                      refine allG_cons (pure_move _ (.inl rfl) rfl) (by kernel_rfl) ?_
                      refine allG_cons (pure_load2 _ r8 _ _ rfl rfl (B8.out.blocks rfl) rfl) (by kernel_rfl) ?_
                      refine allG_cons (pure_call _ _ _ _ pval_enters rfl rfl (fun os d => HP.out _)) (by kernel_rfl) ?_
                      refine allG_cons (by refine pure_quiet fun aQ osQ dQ hgQ => ?_; have h1Q : aQ.eval (.tmp 106) = .bool false := hgQ (.tmp 106) (by simp [Op.operands, Call.operands]); have hcQ : ∀ v, aQ.eval (.const v) = v := fun _ => rfl; generalize aQ.eval = rQ at h1Q hcQ; clear hgQ; simp [execOp, h1Q, hcQ, resolve, invoke, builtin, go_sem, *] <;> rfl) (by kernel_rfl) ?_
                      refine allG_cons (pure_move _ (.inl rfl) rfl) (by kernel_rfl) ?_
                      refine allG_skip (by kernel_rfl) rfl ?_
                      refine allG_skip (by kernel_rfl) rfl ?_
                      refine allG_skip (by kernel_rfl) rfl ?_
                      refine allG_cons (by refine pure_quiet fun aQ osQ dQ hgQ => ?_; have h1Q : aQ.eval (.tmp 108) = .bool true := hgQ (.tmp 108) (by simp [Op.operands, Call.operands]); have hcQ : ∀ v, aQ.eval (.const v) = v := fun _ => rfl; generalize aQ.eval = rQ at h1Q hcQ; clear hgQ; simp [execOp, h1Q, hcQ, resolve, invoke, builtin, go_sem, *] <;> rfl) (by kernel_rfl) ?_
                      refine allG_cons (pure_move _ (.inl rfl) rfl) (by kernel_rfl) ?_
                      refine allG_skip (by kernel_rfl) rfl ?_
                      refine allG_skip (by kernel_rfl) rfl ?_
                      refine allG_skip (by kernel_rfl) rfl ?_
                      refine allG_skip (by kernel_rfl) rfl ?_
                      refine allG_skip (by kernel_rfl) rfl ?_
                      refine allG_skip (by kernel_rfl) rfl ?_
                      refine allG_skip (by kernel_rfl) rfl ?_
                      refine allG_cons (by refine pure_quiet fun aQ osQ dQ hgQ => ?_; have h1Q : aQ.eval (.tmp 113) = .bool true := hgQ (.tmp 113) (by simp [Op.operands, Call.operands]); have hcQ : ∀ v, aQ.eval (.const v) = v := fun _ => rfl; generalize aQ.eval = rQ at h1Q hcQ; clear hgQ; simp [execOp, h1Q, hcQ, resolve, invoke, builtin, go_sem, *] <;> rfl) (by kernel_rfl) ?_
                      refine allG_cons (by refine pure_quiet fun aQ osQ dQ hgQ => ?_; have h1Q : aQ.eval (.tmp 104) = .bool true := hgQ (.tmp 104) (by simp [Op.operands, Call.operands]); have h2Q : aQ.eval (.tmp 121) = .bool true := hgQ (.tmp 121) (by simp [Op.operands, Call.operands]); have hcQ : ∀ v, aQ.eval (.const v) = v := fun _ => rfl; generalize aQ.eval = rQ at h1Q h2Q hcQ; clear hgQ; simp [execOp, h1Q, h2Q, hcQ, resolve, invoke, builtin, go_sem, *] <;> rfl) (by kernel_rfl) ?_
                      exact True.intro
                    · intro osL dL
                      simp only [putAll, Act.put, List.setIfInBounds_toArray, List.set_cons_succ, List.set_cons_zero]
                      refine last_assign (.tmp 122) 4 (.bool true) rfl rfl rfl ?_
                      simp only [Act.put, List.setIfInBounds_toArray, List.set_cons_succ, List.set_cons_zero]
                      show Exit.then _ _ Exit.normal _ (plus W osL dL)
                      go_wp2
                      go_ret
                      exact ⟨rfl, up_of_below (by first | exact HW.out | exact below_plus HW.out _ _)⟩
                  · rw [hp] at HP
                    have J1 := Lib.hid (J1.out hp)
                    clear hp JI
                    cases hi : ptB ix iy
                    · rw [hi] at HI
                      clear hi J1 J2
                      refine wp_region_any (by kernel_rfl) ?_
                      refine region_lastG [(95, .agg #[.int .i64 X, .int .i64 Y, .int .i64 Q]), (96, .agg #[.int .i64 k, .int .i64 l, .int .i64 m]), (97, .agg #[.int .i64 T1, .int .i64 T2, .int .i64 T3]), (98, .agg #[.int .i64 x, .int .i64 y, .int .i64 q]), (99, .agg #[.int .i64 x', .int .i64 y', .int .i64 q']), (100, .agg #[.int .i64 k, .int .i64 l, .int .i64 m]), (101, .agg #[.int .i64 U1, .int .i64 U2, .int .i64 U3]), (102, .agg #[.int .i64 T1, .int .i64 T2, .int .i64 T3]), (103, .bool true), (104, .bool true), (105, .agg #[.int .i64 px, .int .i64 py]), (106, .bool true), (107, .bool false), (108, .bool false), (109, .agg #[.int .i64 ix, .int .i64 iy]), (110, .bool false), (111, .bool true), (112, .bool true), (113, .bool true), (121, .bool true), (122, .bool true)] [(104, true), (108, false), (113, true)] _ _ (by kernel_rfl) (by kernel_rfl) ?_ ?_ _ rfl ?_
                      · simp only [putAll, Act.put, List.setIfInBounds_toArray, List.set_cons_succ, List.set_cons_zero]
                        intro gQ hgQ
                        simp only [List.mem_cons, List.not_mem_nil, or_false] at hgQ
                        rcases hgQ with rfl | rfl | rfl
                        all_goals rfl
                      · simp only [putAll, Act.put, List.setIfInBounds_toArray, List.set_cons_succ, List.set_cons_zero]
                        refine allG_cons (pure_load3 _ r9 _ _ _ rfl rfl (B9.out.blocks rfl) rfl) (by kernel_rfl) ?_
                        refine allG_cons (pure_load3 _ r7 _ _ _ rfl rfl (B7.out.blocks rfl) rfl) (by kernel_rfl) ?_
                        refine allG_cons (pure_call _ _ _ _ comp_enters rfl rfl (fun os d => K1.out _)) (by kernel_rfl) ?_
                        refine allG_cons (pure_load3 _ r5 _ _ _ rfl rfl (B5.out.blocks rfl) rfl) (by kernel_rfl) ?_
                        refine allG_cons (pure_load3 _ r6 _ _ _ rfl rfl (B6.out.blocks rfl) rfl) (by kernel_rfl) ?_
                        refine allG_cons (pure_load3 _ r7 _ _ _ rfl rfl (B7.out.blocks rfl) rfl) (by kernel_rfl) ?_
                        refine allG_cons (pure_call _ _ _ _ comp_enters rfl rfl (fun os d => K2.out _)) (by kernel_rfl) ?_
                        refine allG_cons (pure_call _ _ _ _ comp_enters rfl rfl (fun os d => K3.out _)) (by kernel_rfl) ?_
                        refine allG_cons (by refine pure_quiet fun aQ osQ dQ hgQ => ?_; have h1Q : aQ.eval (.tmp 97) = .agg #[.int .i64 T1, .int .i64 T2, .int .i64 T3] := hgQ (.tmp 97) (by simp [Op.operands, Call.operands]); have h2Q : aQ.eval (.tmp 102) = .agg #[.int .i64 T1, .int .i64 T2, .int .i64 T3] := hgQ (.tmp 102) (by simp [Op.operands, Call.operands]); have hcQ : ∀ v, aQ.eval (.const v) = v := fun _ => rfl; generalize aQ.eval = rQ at h1Q h2Q hcQ; clear hgQ; simp [execOp, h1Q, h2Q, hcQ, resolve, invoke, builtin, go_sem, *] <;> rfl) (by kernel_rfl) ?_
                        refine allG_cons (pure_move _ (.inl rfl) rfl) (by kernel_rfl) ?_
                        refine allG_cons (pure_load2 _ r8 _ _ rfl rfl (B8.out.blocks rfl) rfl) (by kernel_rfl) ?_
                        refine allG_cons (pure_call _ _ _ _ pval_enters rfl rfl (fun os d => HP.out _)) (by kernel_rfl) ?_
                        refine allG_cons (by refine pure_quiet fun aQ osQ dQ hgQ => ?_; have h1Q : aQ.eval (.tmp 106) = .bool true := hgQ (.tmp 106) (by simp [Op.operands, Call.operands]); have hcQ : ∀ v, aQ.eval (.const v) = v := fun _ => rfl; generalize aQ.eval = rQ at h1Q hcQ; clear hgQ; simp [execOp, h1Q, hcQ, resolve, invoke, builtin, go_sem, *] <;> rfl) (by kernel_rfl) ?_
                        refine allG_cons (pure_move _ (.inl rfl) rfl) (by kernel_rfl) ?_
                        refine allG_cons (pure_load2 _ r10 _ _ rfl rfl (B10.out.blocks rfl) rfl) (by kernel_rfl) ?_
                        refine allG_cons (pure_call _ _ _ _ pval_enters rfl rfl (fun os d => HI.out _)) (by kernel_rfl) ?_
                        refine allG_cons (by refine pure_quiet fun aQ osQ dQ hgQ => ?_; have h1Q : aQ.eval (.tmp 110) = .bool false := hgQ (.tmp 110) (by simp [Op.operands, Call.operands]); have hcQ : ∀ v, aQ.eval (.const v) = v := fun _ => rfl; generalize aQ.eval = rQ at h1Q hcQ; clear hgQ; simp [execOp, h1Q, hcQ, resolve, invoke, builtin, go_sem, *] <;> rfl) (by kernel_rfl) ?_
                        refine allG_cons (by refine pure_quiet fun aQ osQ dQ hgQ => ?_; have h1Q : aQ.eval (.tmp 108) = .bool false := hgQ (.tmp 108) (by simp [Op.operands, Call.operands]); have h2Q : aQ.eval (.tmp 111) = .bool true := hgQ (.tmp 111) (by simp [Op.operands, Call.operands]); have hcQ : ∀ v, aQ.eval (.const v) = v := fun _ => rfl; generalize aQ.eval = rQ at h1Q h2Q hcQ; clear hgQ; simp [execOp, h1Q, h2Q, hcQ, resolve, invoke, builtin, go_sem, *] <;> rfl) (by kernel_rfl) ?_
                        refine allG_cons (pure_move _ (.inl rfl) rfl) (by kernel_rfl) ?_
                        refine allG_skip (by kernel_rfl) rfl ?_
                        refine allG_skip (by kernel_rfl) rfl ?_
                        refine allG_skip (by kernel_rfl) rfl ?_
                        refine allG_skip (by kernel_rfl) rfl ?_
                        refine allG_skip (by kernel_rfl) rfl ?_
                        refine allG_skip (by kernel_rfl) rfl ?_
                        refine allG_skip (by kernel_rfl) rfl ?_
                        refine allG_cons (by refine pure_quiet fun aQ osQ dQ hgQ => ?_; have h1Q : aQ.eval (.tmp 113) = .bool true := hgQ (.tmp 113) (by simp [Op.operands, Call.operands]); have hcQ : ∀ v, aQ.eval (.const v) = v := fun _ => rfl; generalize aQ.eval = rQ at h1Q hcQ; clear hgQ; simp [execOp, h1Q, hcQ, resolve, invoke, builtin, go_sem, *] <;> rfl) (by kernel_rfl) ?_
                        refine allG_cons (by refine pure_quiet fun aQ osQ dQ hgQ => ?_; have h1Q : aQ.eval (.tmp 104) = .bool true := hgQ (.tmp 104) (by simp [Op.operands, Call.operands]); have h2Q : aQ.eval (.tmp 121) = .bool true := hgQ (.tmp 121) (by simp [Op.operands, Call.operands]); have hcQ : ∀ v, aQ.eval (.const v) = v := fun _ => rfl; generalize aQ.eval = rQ at h1Q h2Q hcQ; clear hgQ; simp [execOp, h1Q, h2Q, hcQ, resolve, invoke, builtin, go_sem, *] <;> rfl) (by kernel_rfl) ?_
                        exact True.intro
                      · intro osL dL
                        simp only [putAll, Act.put, List.setIfInBounds_toArray, List.set_cons_succ, List.set_cons_zero]
                        refine last_assign (.tmp 122) 4 (.bool true) rfl rfl rfl ?_
                        simp only [Act.put, List.setIfInBounds_toArray, List.set_cons_succ, List.set_cons_zero]
                        show Exit.then _ _ Exit.normal _ (plus W osL dL)
                        go_wp2
                        go_ret
                        exact ⟨rfl, up_of_below (by first | exact HW.out | exact below_plus HW.out _ _)⟩
                    · rw [hi] at HI
                      have J1 := Lib.hid (J1.out hi)
                      clear hi
                      refine wp_region_any (by kernel_rfl) ?_
                      refine region_lastG [(95, .agg #[.int .i64 X, .int .i64 Y, .int .i64 Q]), (96, .agg #[.int .i64 k, .int .i64 l, .int .i64 m]), (97, .agg #[.int .i64 T1, .int .i64 T2, .int .i64 T3]), (98, .agg #[.int .i64 x, .int .i64 y, .int .i64 q]), (99, .agg #[.int .i64 x', .int .i64 y', .int .i64 q']), (100, .agg #[.int .i64 k, .int .i64 l, .int .i64 m]), (101, .agg #[.int .i64 U1, .int .i64 U2, .int .i64 U3]), (102, .agg #[.int .i64 T1, .int .i64 T2, .int .i64 T3]), (103, .bool true), (104, .bool true), (105, .agg #[.int .i64 px, .int .i64 py]), (106, .bool true), (107, .bool false), (108, .bool false), (109, .agg #[.int .i64 ix, .int .i64 iy]), (110, .bool true), (111, .bool false), (112, .bool false), (113, .bool false), (114, .agg #[.int .i64 X, .int .i64 Y, .int .i64 Q]), (115, .agg #[.int .i64 px, .int .i64 py]), (116, .agg #[.int .i64 v1, .int .i64 v2]), (117, .agg #[.int .i64 x, .int .i64 y, .int .i64 q]), (118, .agg #[.int .i64 ix, .int .i64 iy]), (119, .agg #[.int .i64 v1, .int .i64 v2]), (120, .bool true), (121, .bool true), (122, .bool true)] [(104, true), (108, false), (113, false)] _ _ (by kernel_rfl) (by kernel_rfl) ?_ ?_ _ rfl ?_
                      · simp only [putAll, Act.put, List.setIfInBounds_toArray, List.set_cons_succ, List.set_cons_zero]
                        intro gQ hgQ
                        simp only [List.mem_cons, List.not_mem_nil, or_false] at hgQ
                        rcases hgQ with rfl | rfl | rfl
                        all_goals rfl
                      · simp only [putAll, Act.put, List.setIfInBounds_toArray, List.set_cons_succ, List.set_cons_zero]
                        refine allG_cons (pure_load3 _ r9 _ _ _ rfl rfl (B9.out.blocks rfl) rfl) (by kernel_rfl) ?_
                        refine allG_cons (pure_load3 _ r7 _ _ _ rfl rfl (B7.out.blocks rfl) rfl) (by kernel_rfl) ?_
                        refine allG_cons (pure_call _ _ _ _ comp_enters rfl rfl (fun os d => K1.out _)) (by kernel_rfl) ?_
                        refine allG_cons (pure_load3 _ r5 _ _ _ rfl rfl (B5.out.blocks rfl) rfl) (by kernel_rfl) ?_
                        refine allG_cons (pure_load3 _ r6 _ _ _ rfl rfl (B6.out.blocks rfl) rfl) (by kernel_rfl) ?_
                        refine allG_cons (pure_load3 _ r7 _ _ _ rfl rfl (B7.out.blocks rfl) rfl) (by kernel_rfl) ?_
                        refine allG_cons (pure_call _ _ _ _ comp_enters rfl rfl (fun os d => K2.out _)) (by kernel_rfl) ?_
                        refine allG_cons (pure_call _ _ _ _ comp_enters rfl rfl (fun os d => K3.out _)) (by kernel_rfl) ?_
                        refine allG_cons (by refine pure_quiet fun aQ osQ dQ hgQ => ?_; have h1Q : aQ.eval (.tmp 97) = .agg #[.int .i64 T1, .int .i64 T2, .int .i64 T3] := hgQ (.tmp 97) (by simp [Op.operands, Call.operands]); have h2Q : aQ.eval (.tmp 102) = .agg #[.int .i64 T1, .int .i64 T2, .int .i64 T3] := hgQ (.tmp 102) (by simp [Op.operands, Call.operands]); have hcQ : ∀ v, aQ.eval (.const v) = v := fun _ => rfl; generalize aQ.eval = rQ at h1Q h2Q hcQ; clear hgQ; simp [execOp, h1Q, h2Q, hcQ, resolve, invoke, builtin, go_sem, *] <;> rfl) (by kernel_rfl) ?_
                        refine allG_cons (pure_move _ (.inl rfl) rfl) (by kernel_rfl) ?_
                        refine allG_cons (pure_load2 _ r8 _ _ rfl rfl (B8.out.blocks rfl) rfl) (by kernel_rfl) ?_
                        refine allG_cons (pure_call _ _ _ _ pval_enters rfl rfl (fun os d => HP.out _)) (by kernel_rfl) ?_
                        refine allG_cons (by refine pure_quiet fun aQ osQ dQ hgQ => ?_; have h1Q : aQ.eval (.tmp 106) = .bool true := hgQ (.tmp 106) (by simp [Op.operands, Call.operands]); have hcQ : ∀ v, aQ.eval (.const v) = v := fun _ => rfl; generalize aQ.eval = rQ at h1Q hcQ; clear hgQ; simp [execOp, h1Q, hcQ, resolve, invoke, builtin, go_sem, *] <;> rfl) (by kernel_rfl) ?_
                        refine allG_cons (pure_move _ (.inl rfl) rfl) (by kernel_rfl) ?_
                        refine allG_cons (pure_load2 _ r10 _ _ rfl rfl (B10.out.blocks rfl) rfl) (by kernel_rfl) ?_
                        refine allG_cons (pure_call _ _ _ _ pval_enters rfl rfl (fun os d => HI.out _)) (by kernel_rfl) ?_
                        refine allG_cons (by refine pure_quiet fun aQ osQ dQ hgQ => ?_; have h1Q : aQ.eval (.tmp 110) = .bool true := hgQ (.tmp 110) (by simp [Op.operands, Call.operands]); have hcQ : ∀ v, aQ.eval (.const v) = v := fun _ => rfl; generalize aQ.eval = rQ at h1Q hcQ; clear hgQ; simp [execOp, h1Q, hcQ, resolve, invoke, builtin, go_sem, *] <;> rfl) (by kernel_rfl) ?_
                        refine allG_cons (by refine pure_quiet fun aQ osQ dQ hgQ => ?_; have h1Q : aQ.eval (.tmp 108) = .bool false := hgQ (.tmp 108) (by simp [Op.operands, Call.operands]); have h2Q : aQ.eval (.tmp 111) = .bool false := hgQ (.tmp 111) (by simp [Op.operands, Call.operands]); have hcQ : ∀ v, aQ.eval (.const v) = v := fun _ => rfl; generalize aQ.eval = rQ at h1Q h2Q hcQ; clear hgQ; simp [execOp, h1Q, h2Q, hcQ, resolve, invoke, builtin, go_sem, *] <;> rfl) (by kernel_rfl) ?_
                        refine allG_cons (pure_move _ (.inl rfl) rfl) (by kernel_rfl) ?_
                        refine allG_cons (pure_load3 _ r9 _ _ _ rfl rfl (B9.out.blocks rfl) rfl) (by kernel_rfl) ?_
                        refine allG_cons (pure_load2 _ r8 _ _ rfl rfl (B8.out.blocks rfl) rfl) (by kernel_rfl) ?_
                        refine allG_cons (pure_call _ _ _ _ app_enters rfl rfl (fun os d => J1.out _)) (by kernel_rfl) ?_
                        refine allG_cons (pure_load3 _ r5 _ _ _ rfl rfl (B5.out.blocks rfl) rfl) (by kernel_rfl) ?_
                        refine allG_cons (pure_load2 _ r10 _ _ rfl rfl (B10.out.blocks rfl) rfl) (by kernel_rfl) ?_
                        refine allG_cons (pure_call _ _ _ _ app_enters rfl rfl (fun os d => J2.out _)) (by kernel_rfl) ?_
                        refine allG_cons (by refine pure_quiet fun aQ osQ dQ hgQ => ?_; have h1Q : aQ.eval (.tmp 116) = .agg #[.int .i64 v1, .int .i64 v2] := hgQ (.tmp 116) (by simp [Op.operands, Call.operands]); have h2Q : aQ.eval (.tmp 119) = .agg #[.int .i64 v1, .int .i64 v2] := hgQ (.tmp 119) (by simp [Op.operands, Call.operands]); have hcQ : ∀ v, aQ.eval (.const v) = v := fun _ => rfl; generalize aQ.eval = rQ at h1Q h2Q hcQ; clear hgQ; simp [execOp, h1Q, h2Q, hcQ, resolve, invoke, builtin, go_sem, *] <;> rfl) (by kernel_rfl) ?_
                        refine allG_cons (by refine pure_quiet fun aQ osQ dQ hgQ => ?_; have h1Q : aQ.eval (.tmp 113) = .bool false := hgQ (.tmp 113) (by simp [Op.operands, Call.operands]); have h2Q : aQ.eval (.tmp 120) = .bool true := hgQ (.tmp 120) (by simp [Op.operands, Call.operands]); have hcQ : ∀ v, aQ.eval (.const v) = v := fun _ => rfl; generalize aQ.eval = rQ at h1Q h2Q hcQ; clear hgQ; simp [execOp, h1Q, h2Q, hcQ, resolve, invoke, builtin, go_sem, *] <;> rfl) (by kernel_rfl) ?_
                        refine allG_cons (by refine pure_quiet fun aQ osQ dQ hgQ => ?_; have h1Q : aQ.eval (.tmp 104) = .bool true := hgQ (.tmp 104) (by simp [Op.operands, Call.operands]); have h2Q : aQ.eval (.tmp 121) = .bool true := hgQ (.tmp 121) (by simp [Op.operands, Call.operands]); have hcQ : ∀ v, aQ.eval (.const v) = v := fun _ => rfl; generalize aQ.eval = rQ at h1Q h2Q hcQ; clear hgQ; simp [execOp, h1Q, h2Q, hcQ, resolve, invoke, builtin, go_sem, *] <;> rfl) (by kernel_rfl) ?_
                        exact True.intro
                      · intro osL dL
                        simp only [putAll, Act.put, List.setIfInBounds_toArray, List.set_cons_succ, List.set_cons_zero]
                        refine last_assign (.tmp 122) 4 (.bool true) rfl rfl rfl ?_
                        simp only [Act.put, List.setIfInBounds_toArray, List.set_cons_succ, List.set_cons_zero]
                        show Exit.then _ _ Exit.normal _ (plus W osL dL)
                        go_wp2
                        go_ret
                        exact ⟨rfl, up_of_below (by first | exact HW.out | exact below_plus HW.out _ _)⟩
      · have hz : cmX x y q x' y' q' = 0 ∧ cmY x y q x' y' q' = 0 ∧ cmQ x y q x' y' q' = 0 := cm_not (by
          cases h1 : frB x y q
          · exact .inl rfl
          · cases h2 : frB x' y' q'
            · exact .inr rfl
            · exact absurd ⟨h1, h2⟩ hV)
        obtain ⟨z1, z2, z3⟩ := hz
        have CF : Hid (∀ W, Calls Try.prog 21 #[.agg #[.int .i64 x, .int .i64 y, .int .i64 q], .agg #[.int .i64 x', .int .i64 y', .int .i64 q']] W fun e w' => e = .returned (.agg #[.int .i64 0, .int .i64 0, .int .i64 0]) ∧ Up W w') := fun W => by have h := compose_any x y q x' y' q' W; rwa [z1, z2, z3] at h
        have S5 : Hid (∀ W, Calls Try.prog 20 #[.agg #[.int .i64 x, .int .i64 y, .int .i64 q], .agg #[.int .i64 x', .int .i64 y', .int .i64 q']] W fun e w' => e = .returned (.agg #[.int .i64 0, .int .i64 0, .int .i64 0]) ∧ Up W w') := fun W => by have h := sCompose_any x y q x' y' q' W; rwa [z1, z2, z3] at h
        clear z1 z2 z3 hA hB hC hP
        have HV := Lib.hid hV
        clear hV
        go_wp2_with fail
        refine (CF.out _).mono ?_
        rintro e w1 ⟨rfl, os2, d2, rfl⟩
        go_wp2
        refine wp_forget (fun W => Hid (BoxF W (w.heap.size + os0.size) x y q) ∧ Hid (BoxF W (w.heap.size + os0.size + 1) x' y' q') ∧ Hid (BoxF W (w.heap.size + os0.size + 1 + 1 + os1.size) k l m) ∧ Hid (BoxP W (w.heap.size + os0.size + 1 + 1 + os1.size + 1) px py) ∧ Hid (BoxF W (w.heap.size + os0.size + 1 + 1 + os1.size + 1 + 1 + os2.size) 0 0 0) ∧ Hid (Below w.heap.size w W)) ⟨⟨by simp [go_sem], by simp [go_sem], by simp [go_sem], by simp [go_sem]⟩, ⟨by simp [go_sem], by simp [go_sem], by simp [go_sem], by simp [go_sem]⟩, ⟨by simp [go_sem], by simp [go_sem], by simp [go_sem], by simp [go_sem]⟩, ⟨by simp [go_sem], by simp [go_sem], by simp [go_sem]⟩, ⟨by simp [go_sem], by simp [go_sem], by simp [go_sem], by simp [go_sem]⟩, show Below _ _ _ by repeat (first | with_reducible exact Below.refl _ _ | with_reducible apply below_alloc | with_reducible apply below_drw | with_reducible apply below_drew | with_reducible apply below_drewN | with_reducible apply below_plus | with_reducible apply below_set | (simp; done))⟩ ?_
        rintro W ⟨B5, B6, B7, B8, B9, HW⟩
        generalize w.heap.size + os0.size + 1 + 1 + os1.size + 1 + 1 + os2.size = r9 at B9 ⊢
        generalize w.heap.size + os0.size + 1 + 1 + os1.size + 1 = r8 at B8 ⊢
        generalize w.heap.size + os0.size + 1 + 1 + os1.size = r7 at B7 ⊢
        generalize w.heap.size + os0.size + 1 = r6 at B6 ⊢
        generalize w.heap.size + os0.size = r5 at B5 ⊢
        refine wp_region_any (by kernel_rfl) ?_
        refine region_lastG [(32, .agg #[.int .i64 0, .int .i64 0, .int .i64 0]), (33, .agg #[.int .i64 x, .int .i64 y, .int .i64 q]), (34, .agg #[.int .i64 x', .int .i64 y', .int .i64 q']), (35, .agg #[.int .i64 0, .int .i64 0, .int .i64 0])] [] _ _ (by kernel_rfl) (by kernel_rfl) ?_ ?_ _ rfl ?_
        · simp only [putAll, Act.put, List.setIfInBounds_toArray, List.set_cons_succ, List.set_cons_zero]
          intro gQ hgQ
          exact absurd hgQ (List.not_mem_nil)
        · simp only [putAll, Act.put, List.setIfInBounds_toArray, List.set_cons_succ, List.set_cons_zero]
          refine allG_cons (pure_load3 _ r9 _ _ _ rfl rfl (B9.out.blocks rfl) rfl) (by kernel_rfl) ?_
          refine allG_cons (pure_load3 _ r5 _ _ _ rfl rfl (B5.out.blocks rfl) rfl) (by kernel_rfl) ?_
          refine allG_cons (pure_load3 _ r6 _ _ _ rfl rfl (B6.out.blocks rfl) rfl) (by kernel_rfl) ?_
          refine allG_cons (pure_call _ _ _ _ scomp_enters rfl rfl (fun os d => S5.out _)) (by kernel_rfl) ?_
          exact True.intro
        · intro osL dL
          simp only [putAll, Act.put, List.setIfInBounds_toArray, List.set_cons_succ, List.set_cons_zero]
          refine last_quiet2 36 (.bool false) (.tmp 32) (.tmp 35) _ _ rfl rfl rfl (fun ρ h1 h2 => by simp [execOp, h1, h2, go_sem]) ?_
          simp only [Act.put, List.setIfInBounds_toArray, List.set_cons_succ, List.set_cons_zero]
          show Exit.then _ _ Exit.normal _ (plus W osL dL)
          have D5_0 := (plus_cell (os := osL) (d := dL) r5 0 B5.out.lt).trans B5.out.c0
          have D5_1 := (plus_cell (os := osL) (d := dL) r5 1 B5.out.lt).trans B5.out.c1
          have D5_2 := (plus_cell (os := osL) (d := dL) r5 2 B5.out.lt).trans B5.out.c2
          have D6_0 := (plus_cell (os := osL) (d := dL) r6 0 B6.out.lt).trans B6.out.c0
          have D6_1 := (plus_cell (os := osL) (d := dL) r6 1 B6.out.lt).trans B6.out.c1
          have D6_2 := (plus_cell (os := osL) (d := dL) r6 2 B6.out.lt).trans B6.out.c2
          have D9_0 := (plus_cell (os := osL) (d := dL) r9 0 B9.out.lt).trans B9.out.c0
          have D9_1 := (plus_cell (os := osL) (d := dL) r9 1 B9.out.lt).trans B9.out.c1
          have D9_2 := (plus_cell (os := osL) (d := dL) r9 2 B9.out.lt).trans B9.out.c2
          have B5 := Lib.hid (B5.out.below (below_plus (Below.refl _ _) osL dL))
          have B6 := Lib.hid (B6.out.below (below_plus (Below.refl _ _) osL dL))
          have B9 := Lib.hid (B9.out.below (below_plus (Below.refl _ _) osL dL))
          have HW := Lib.hid (below_plus HW.out osL dL)
          have ltr5 := B5.out.lt
          have ltr6 := B6.out.lt
          have ltr9 := B9.out.lt
          clear S5 CF B7 B8
          generalize plus W osL dL = W2 at D5_0 D5_1 D5_2 D6_0 D6_1 D6_2 D9_0 D9_1 D9_2 B5 B6 B9 HW ltr5 ltr6 ltr9 ⊢
          cases hv : frB x y q
          · go_wp2_with (first | (go_at_call 13; refine (sFrameValid_any _ _ _ _).mono ?_; rintro e w1 ⟨rfl, os, d, rfl⟩) | (go_at_call 29; refine (alive_any _).mono ?_; rintro e w' ⟨rfl, rfl⟩))
            go_ret
            exact ⟨rfl, up_of_below (by first | exact HW.out | exact below_plus HW.out _ _ | (refine HW.out.trans (Below.mono ?_ HW.out.size); repeat (first | with_reducible exact Below.refl _ _ | with_reducible apply below_alloc | with_reducible apply below_drw | with_reducible apply below_drew | with_reducible apply below_drewN | with_reducible apply below_plus | with_reducible apply below_set | (simp; done))))⟩
          · cases hv' : frB x' y' q'
            · go_wp2_with (first | (go_at_call 13; refine (sFrameValid_any _ _ _ _).mono ?_; rintro e w1 ⟨rfl, os, d, rfl⟩) | (go_at_call 29; refine (alive_any _).mono ?_; rintro e w' ⟨rfl, rfl⟩))
              go_ret
              exact ⟨rfl, up_of_below (by first | exact HW.out | exact below_plus HW.out _ _ | (refine HW.out.trans (Below.mono ?_ HW.out.size); repeat (first | with_reducible exact Below.refl _ _ | with_reducible apply below_alloc | with_reducible apply below_drw | with_reducible apply below_drew | with_reducible apply below_drewN | with_reducible apply below_plus | with_reducible apply below_set | (simp; done))))⟩
            · exact absurd ⟨hv, hv'⟩ HV.out
    · go_enter Try.func12, Try.ntmps12
      go_wp2
      go_ret
      exact ⟨rfl, up_of_below (Below.refl _ _)⟩
  · go_enter Try.func12, Try.ntmps12
    go_wp2
    go_ret
    exact ⟨rfl, up_of_below (Below.refl _ _)⟩

end Go.Proofs.Ytnflmbmhncndfaa
