/-
  Slices that a drawn region makes, and its picks. No condition beyond those that each theorem states.
-/
import Derived.Test.YtnflmbmhncndfaaSh1
namespace Go.Proofs.Ytnflmbmhncndfaa
open Go.RowKit
section
variable {b : Nat} {rs : List Nat} {c : Option Addr × Nat × Nat} {cost : Int} {A : Nat → Sh} {o : Oper}

theorem steps_pick (hc : 1 ≤ cost) (x : Operand) (m : Int) (ts : Array TypeId) (h : o.op = .call { callee := .value (.func 45), args := #[x, .const (.int .i64 m)], argTypes := ts }) (hx : shOpd A x = .rd) (hm : (decide (1 ≤ m) && decide (m ≤ 1000000)) = true) (hA : ∀ s, o.dst = some s → A s = .int 0 (m - 1)) : Steps Try.prog b rs c cost A o := by
  simp only [Bool.and_eq_true, decide_eq_true_eq] at hm
  intro a w q K Q hread hr hrs hq0 hq1 hK
  have gx := good_tmp hread (x := x) (by simp [h, Op.operands, Call.operands])
  rw [hx] at gx
  change a.eval x = _ at gx
  have hrun : (execOp a.eval o).run Try.prog w = .ok (.enter 45 #[.pointer (some ⟨b, 0, none⟩), .int .i64 m]) w := by
    have e1 : a.eval (.const (.int .i64 m)) = .int .i64 m := rfl
    have e2 : a.eval (.func 45) = .func (.func 45) #[] #[] := rfl
    generalize a.eval = ρ at gx e1 e2
    simp [execOp, h, resolve, Deferred.ofValue, invoke, callFunc, gx, e1, e2, go_sem]
    have n1 : Try.f45.name ≠ "runtime.NumGoroutine" := by
      have : (Try.f45.name == "runtime.NumGoroutine") = false := by kernel_rfl
      simpa using this
    have n2 : Try.f45.body ≠ none := by
      have : Try.f45.body.isNone = false := by kernel_rfl
      intro h; rw [h] at this; cases this
    rw [if_neg n1, if_neg n2]
  unfold Oper.wp
  rw [hrun]
  rw [Oper.upon_enter]
  refine (pick_any b c.1 c.2.1 c.2.2 q m w hr hq0 (by omega) hm.1 hm.2).mono ?_
  rintro e w1 ⟨x, d, hx0, hx1, rfl, rfl⟩
  have := hK (.int .i64 x) (q + 1) #[] d (by omega) (by omega) (fun s hs => by rw [hA s hs]; exact ⟨x, rfl, hx0, by omega⟩)
  have hw : plus (w.setCell ⟨b, 1, none⟩ (.int .i64 (q + 1))) #[] d = drw (w.setCell ⟨b, 1, none⟩ (.int .i64 (q + 1))) d := by unfold plus drw; rw [Array.append_empty]
  rw [hw] at this
  exact this

/-- A call that draws: what it yields, and how far the reader goes on. -/
def DrawsTo (b : Nat) (rs : List Nat) (c : Option Addr × Nat × Nat) (cost : Int) (f : Nat) (m : Int) (s : Sh) : Prop :=
  ∀ (w : World) (q : Int), Rd w b c.1 c.2.1 c.2.2 q → 0 ≤ q → q ≤ 900000 → Calls Try.prog f #[.pointer (some ⟨b, 0, none⟩), .int .i64 m] w fun e w' => ∃ v, e = .returned v ∧ (∀ W, Good b rs W s v) ∧ Gone w b q cost w'

theorem steps_call (x : Operand) (m : Int) (ts : Array TypeId) (f : Nat) (r : Sh) (eg : ∀ args w, (callFunc f args).run Try.prog w = .ok (.enter f args) w) (hd : DrawsTo b rs c cost f m r)
    (h : o.op = .call { callee := .value (.func f), args := #[x, .const (.int .i64 m)], argTypes := ts }) (hx : shOpd A x = .rd) (hA : ∀ s, o.dst = some s → A s = r) : Steps Try.prog b rs c cost A o := by
  intro a w q K Q hread hr hrs hq0 hq1 hK
  have gx := good_tmp hread (x := x) (by simp [h, Op.operands, Call.operands])
  rw [hx] at gx
  change a.eval x = _ at gx
  have hrun : (execOp a.eval o).run Try.prog w = .ok (.enter f #[.pointer (some ⟨b, 0, none⟩), .int .i64 m]) w := by
    have e1 : a.eval (.const (.int .i64 m)) = .int .i64 m := rfl
    have e2 : a.eval (.func f) = .func (.func f) #[] #[] := rfl
    generalize a.eval = ρ at gx e1 e2
    simp [execOp, h, resolve, Deferred.ofValue, invoke, gx, e1, e2, go_sem, eg]
  unfold Oper.wp
  rw [hrun]
  rw [Oper.upon_enter]
  refine (hd w q hr hq0 hq1).mono ?_
  rintro e w1 ⟨v, rfl, hv, p', hp0, hp1, os, d, rfl⟩
  exact hK v p' os d hp0 hp1 (fun s hs => by rw [hA s hs]; exact hv _)

/-- A call that reads a list and yields a number. -/
theorem steps_read (hc : 0 ≤ cost) (x : Operand) (ts : Array TypeId) (f : Nat) (la : Option Addr) (ln lc : Nat) (zs : List Int) (lo hi : Int) (eg : ∀ args w, (callFunc f args).run Try.prog w = .ok (.enter f args) w)
    (hd : ∀ W : World, (zs = [] ∨ ∃ blk off, la = some ⟨blk, off, none⟩ ∧ ∀ i, i < zs.length → W.cell? ⟨blk, off + i, none⟩ = some (.int .i64 (zs.getD i 0))) → Calls Try.prog f #[.slice la ln lc] W fun e w' => ∃ z : Int, (lo ≤ z ∧ z ≤ hi) ∧ e = .returned (.int .i64 z) ∧ Up W w')
    (h : o.op = .call { callee := .value (.func f), args := #[x], argTypes := ts }) (hx : shOpd A x = .list la ln lc zs) (hA : ∀ s, o.dst = some s → A s = .int lo hi) : Steps Try.prog b rs c cost A o := by
  intro a w q K Q hread hr hrs hq0 hq1 hK
  have gx := good_tmp hread (x := x) (by simp [h, Op.operands, Call.operands])
  rw [hx] at gx
  obtain ⟨ex, hl⟩ := gx
  have hrun : (execOp a.eval o).run Try.prog w = .ok (.enter f #[.slice la ln lc]) w := by
    have e2 : a.eval (.func f) = .func (.func f) #[] #[] := rfl
    generalize a.eval = ρ at ex e2
    simp [execOp, h, resolve, Deferred.ofValue, invoke, ex, e2, go_sem, eg]
  unfold Oper.wp
  rw [hrun]
  rw [Oper.upon_enter]
  refine (hd w ?_).mono ?_
  · rcases hl with h0 | ⟨blk, off, h1, _, h3⟩
    · exact .inl h0
    · exact .inr ⟨blk, off, h1, h3⟩
  rintro e w1 ⟨z, hz, rfl, os, d, rfl⟩
  have hk := hK (.int .i64 z) q os d (Int.le_refl _) (by omega) (fun s hs => by rw [hA s hs]; exact ⟨z, rfl, hz⟩)
  rw [setCell_self hr.at_] at hk
  exact hk

theorem steps_build2 (hc : 0 ≤ cost) (y0 y1 : Operand) (lo hi l0 h0 l1 h1 : Int) (h : o.op = .buildSlice 62 2 #[(0, y0), (1, y1)]) (g0 : shOpd A y0 = .int l0 h0) (g1 : shOpd A y1 = .int l1 h1) (hin : ((decide (lo ≤ l0) && decide (h0 ≤ hi)) && (decide (lo ≤ l1) && decide (h1 ≤ hi))) = true) (hA : ∀ s, o.dst = some s → A s = .sl 2 lo hi) : Steps Try.prog b rs c cost A o := by
  simp only [Bool.and_eq_true, decide_eq_true_eq] at hin
  intro a w q K Q hread hr hrs hq0 hq1 hK
  have k0 := good_tmp hread (x := y0) (by simp [h, Op.operands])
  rw [g0] at k0
  obtain ⟨x0, e0, a0, b0⟩ := k0
  have k1 := good_tmp hread (x := y1) (by simp [h, Op.operands])
  rw [g1] at k1
  obtain ⟨x1, e1, a1, b1⟩ := k1
  have hrun : (execOp a.eval o).run Try.prog w = .ok (.value (.slice (some ⟨w.heap.size, 0, none⟩) 2 2)) (w.alloc (.cells #[.int .i64 x0, .int .i64 x1] 3)) := by
    generalize a.eval = ρ at e0 e1
    simp [execOp, h, e0, e1, go_sem]
  unfold Oper.wp
  rw [hrun]
  show K _ _
  have hw : plus (w.setCell ⟨b, 1, none⟩ (.int .i64 q)) #[.cells #[.int .i64 x0, .int .i64 x1] 3] w.drawn = w.alloc (.cells #[.int .i64 x0, .int .i64 x1] 3) := by
    rw [setCell_self hr.at_, alloc_is_plus]
  have := hK (.slice (some ⟨w.heap.size, 0, none⟩) 2 2) q #[.cells #[.int .i64 x0, .int .i64 x1] 3] w.drawn (Int.le_refl _) (by omega) (fun s hs => ?_)
  · rw [hw] at this; exact this
  · rw [hA s hs, hw]
    refine ⟨_, rfl, off_new hr hrs, fun i hi => ?_⟩
    have hcell := World.cell?_alloc_new w #[.int .i64 x0, .int .i64 x1] 3 i
    match i, hi with
    | 0, _ => exact ⟨x0, hcell, by omega, by omega⟩
    | 1, _ => exact ⟨x1, hcell, by omega, by omega⟩

theorem steps_build3 (hc : 0 ≤ cost) (y0 y1 y2 : Operand) (lo hi l0 h0 l1 h1 l2 h2 : Int) (h : o.op = .buildSlice 62 3 #[(0, y0), (1, y1), (2, y2)]) (g0 : shOpd A y0 = .int l0 h0) (g1 : shOpd A y1 = .int l1 h1) (g2 : shOpd A y2 = .int l2 h2) (hin : ((decide (lo ≤ l0) && decide (h0 ≤ hi)) && (decide (lo ≤ l1) && decide (h1 ≤ hi)) && (decide (lo ≤ l2) && decide (h2 ≤ hi))) = true) (hA : ∀ s, o.dst = some s → A s = .sl 3 lo hi) : Steps Try.prog b rs c cost A o := by
  simp only [Bool.and_eq_true, decide_eq_true_eq] at hin
  intro a w q K Q hread hr hrs hq0 hq1 hK
  have k0 := good_tmp hread (x := y0) (by simp [h, Op.operands])
  rw [g0] at k0
  obtain ⟨x0, e0, a0, b0⟩ := k0
  have k1 := good_tmp hread (x := y1) (by simp [h, Op.operands])
  rw [g1] at k1
  obtain ⟨x1, e1, a1, b1⟩ := k1
  have k2 := good_tmp hread (x := y2) (by simp [h, Op.operands])
  rw [g2] at k2
  obtain ⟨x2, e2, a2, b2⟩ := k2
  have hrun : (execOp a.eval o).run Try.prog w = .ok (.value (.slice (some ⟨w.heap.size, 0, none⟩) 3 3)) (w.alloc (.cells #[.int .i64 x0, .int .i64 x1, .int .i64 x2] 3)) := by
    generalize a.eval = ρ at e0 e1 e2
    simp [execOp, h, e0, e1, e2, go_sem]
  unfold Oper.wp
  rw [hrun]
  show K _ _
  have hw : plus (w.setCell ⟨b, 1, none⟩ (.int .i64 q)) #[.cells #[.int .i64 x0, .int .i64 x1, .int .i64 x2] 3] w.drawn = w.alloc (.cells #[.int .i64 x0, .int .i64 x1, .int .i64 x2] 3) := by
    rw [setCell_self hr.at_, alloc_is_plus]
  have := hK (.slice (some ⟨w.heap.size, 0, none⟩) 3 3) q #[.cells #[.int .i64 x0, .int .i64 x1, .int .i64 x2] 3] w.drawn (Int.le_refl _) (by omega) (fun s hs => ?_)
  · rw [hw] at this; exact this
  · rw [hA s hs, hw]
    refine ⟨_, rfl, off_new hr hrs, fun i hi => ?_⟩
    have hcell := World.cell?_alloc_new w #[.int .i64 x0, .int .i64 x1, .int .i64 x2] 3 i
    match i, hi with
    | 0, _ => exact ⟨x0, hcell, by omega, by omega⟩
    | 1, _ => exact ⟨x1, hcell, by omega, by omega⟩
    | 2, _ => exact ⟨x2, hcell, by omega, by omega⟩

theorem steps_build4 (hc : 0 ≤ cost) (y0 y1 y2 y3 : Operand) (lo hi l0 h0 l1 h1 l2 h2 l3 h3 : Int) (h : o.op = .buildSlice 62 4 #[(0, y0), (1, y1), (2, y2), (3, y3)]) (g0 : shOpd A y0 = .int l0 h0) (g1 : shOpd A y1 = .int l1 h1) (g2 : shOpd A y2 = .int l2 h2) (g3 : shOpd A y3 = .int l3 h3) (hin : ((decide (lo ≤ l0) && decide (h0 ≤ hi)) && (decide (lo ≤ l1) && decide (h1 ≤ hi)) && (decide (lo ≤ l2) && decide (h2 ≤ hi)) && (decide (lo ≤ l3) && decide (h3 ≤ hi))) = true) (hA : ∀ s, o.dst = some s → A s = .sl 4 lo hi) : Steps Try.prog b rs c cost A o := by
  simp only [Bool.and_eq_true, decide_eq_true_eq] at hin
  intro a w q K Q hread hr hrs hq0 hq1 hK
  have k0 := good_tmp hread (x := y0) (by simp [h, Op.operands])
  rw [g0] at k0
  obtain ⟨x0, e0, a0, b0⟩ := k0
  have k1 := good_tmp hread (x := y1) (by simp [h, Op.operands])
  rw [g1] at k1
  obtain ⟨x1, e1, a1, b1⟩ := k1
  have k2 := good_tmp hread (x := y2) (by simp [h, Op.operands])
  rw [g2] at k2
  obtain ⟨x2, e2, a2, b2⟩ := k2
  have k3 := good_tmp hread (x := y3) (by simp [h, Op.operands])
  rw [g3] at k3
  obtain ⟨x3, e3, a3, b3⟩ := k3
  have hrun : (execOp a.eval o).run Try.prog w = .ok (.value (.slice (some ⟨w.heap.size, 0, none⟩) 4 4)) (w.alloc (.cells #[.int .i64 x0, .int .i64 x1, .int .i64 x2, .int .i64 x3] 3)) := by
    generalize a.eval = ρ at e0 e1 e2 e3
    simp [execOp, h, e0, e1, e2, e3, go_sem]
  unfold Oper.wp
  rw [hrun]
  show K _ _
  have hw : plus (w.setCell ⟨b, 1, none⟩ (.int .i64 q)) #[.cells #[.int .i64 x0, .int .i64 x1, .int .i64 x2, .int .i64 x3] 3] w.drawn = w.alloc (.cells #[.int .i64 x0, .int .i64 x1, .int .i64 x2, .int .i64 x3] 3) := by
    rw [setCell_self hr.at_, alloc_is_plus]
  have := hK (.slice (some ⟨w.heap.size, 0, none⟩) 4 4) q #[.cells #[.int .i64 x0, .int .i64 x1, .int .i64 x2, .int .i64 x3] 3] w.drawn (Int.le_refl _) (by omega) (fun s hs => ?_)
  · rw [hw] at this; exact this
  · rw [hA s hs, hw]
    refine ⟨_, rfl, off_new hr hrs, fun i hi => ?_⟩
    have hcell := World.cell?_alloc_new w #[.int .i64 x0, .int .i64 x1, .int .i64 x2, .int .i64 x3] 3 i
    match i, hi with
    | 0, _ => exact ⟨x0, hcell, by omega, by omega⟩
    | 1, _ => exact ⟨x1, hcell, by omega, by omega⟩
    | 2, _ => exact ⟨x2, hcell, by omega, by omega⟩
    | 3, _ => exact ⟨x3, hcell, by omega, by omega⟩

theorem steps_build5 (hc : 0 ≤ cost) (y0 y1 y2 y3 y4 : Operand) (lo hi l0 h0 l1 h1 l2 h2 l3 h3 l4 h4 : Int) (h : o.op = .buildSlice 62 5 #[(0, y0), (1, y1), (2, y2), (3, y3), (4, y4)]) (g0 : shOpd A y0 = .int l0 h0) (g1 : shOpd A y1 = .int l1 h1) (g2 : shOpd A y2 = .int l2 h2) (g3 : shOpd A y3 = .int l3 h3) (g4 : shOpd A y4 = .int l4 h4) (hin : ((decide (lo ≤ l0) && decide (h0 ≤ hi)) && (decide (lo ≤ l1) && decide (h1 ≤ hi)) && (decide (lo ≤ l2) && decide (h2 ≤ hi)) && (decide (lo ≤ l3) && decide (h3 ≤ hi)) && (decide (lo ≤ l4) && decide (h4 ≤ hi))) = true) (hA : ∀ s, o.dst = some s → A s = .sl 5 lo hi) : Steps Try.prog b rs c cost A o := by
  simp only [Bool.and_eq_true, decide_eq_true_eq] at hin
  intro a w q K Q hread hr hrs hq0 hq1 hK
  have k0 := good_tmp hread (x := y0) (by simp [h, Op.operands])
  rw [g0] at k0
  obtain ⟨x0, e0, a0, b0⟩ := k0
  have k1 := good_tmp hread (x := y1) (by simp [h, Op.operands])
  rw [g1] at k1
  obtain ⟨x1, e1, a1, b1⟩ := k1
  have k2 := good_tmp hread (x := y2) (by simp [h, Op.operands])
  rw [g2] at k2
  obtain ⟨x2, e2, a2, b2⟩ := k2
  have k3 := good_tmp hread (x := y3) (by simp [h, Op.operands])
  rw [g3] at k3
  obtain ⟨x3, e3, a3, b3⟩ := k3
  have k4 := good_tmp hread (x := y4) (by simp [h, Op.operands])
  rw [g4] at k4
  obtain ⟨x4, e4, a4, b4⟩ := k4
  have hrun : (execOp a.eval o).run Try.prog w = .ok (.value (.slice (some ⟨w.heap.size, 0, none⟩) 5 5)) (w.alloc (.cells #[.int .i64 x0, .int .i64 x1, .int .i64 x2, .int .i64 x3, .int .i64 x4] 3)) := by
    generalize a.eval = ρ at e0 e1 e2 e3 e4
    simp [execOp, h, e0, e1, e2, e3, e4, go_sem]
  unfold Oper.wp
  rw [hrun]
  show K _ _
  have hw : plus (w.setCell ⟨b, 1, none⟩ (.int .i64 q)) #[.cells #[.int .i64 x0, .int .i64 x1, .int .i64 x2, .int .i64 x3, .int .i64 x4] 3] w.drawn = w.alloc (.cells #[.int .i64 x0, .int .i64 x1, .int .i64 x2, .int .i64 x3, .int .i64 x4] 3) := by
    rw [setCell_self hr.at_, alloc_is_plus]
  have := hK (.slice (some ⟨w.heap.size, 0, none⟩) 5 5) q #[.cells #[.int .i64 x0, .int .i64 x1, .int .i64 x2, .int .i64 x3, .int .i64 x4] 3] w.drawn (Int.le_refl _) (by omega) (fun s hs => ?_)
  · rw [hw] at this; exact this
  · rw [hA s hs, hw]
    refine ⟨_, rfl, off_new hr hrs, fun i hi => ?_⟩
    have hcell := World.cell?_alloc_new w #[.int .i64 x0, .int .i64 x1, .int .i64 x2, .int .i64 x3, .int .i64 x4] 3 i
    match i, hi with
    | 0, _ => exact ⟨x0, hcell, by omega, by omega⟩
    | 1, _ => exact ⟨x1, hcell, by omega, by omega⟩
    | 2, _ => exact ⟨x2, hcell, by omega, by omega⟩
    | 3, _ => exact ⟨x3, hcell, by omega, by omega⟩
    | 4, _ => exact ⟨x4, hcell, by omega, by omega⟩

theorem steps_build6 (hc : 0 ≤ cost) (y0 y1 y2 y3 y4 y5 : Operand) (lo hi l0 h0 l1 h1 l2 h2 l3 h3 l4 h4 l5 h5 : Int) (h : o.op = .buildSlice 62 6 #[(0, y0), (1, y1), (2, y2), (3, y3), (4, y4), (5, y5)]) (g0 : shOpd A y0 = .int l0 h0) (g1 : shOpd A y1 = .int l1 h1) (g2 : shOpd A y2 = .int l2 h2) (g3 : shOpd A y3 = .int l3 h3) (g4 : shOpd A y4 = .int l4 h4) (g5 : shOpd A y5 = .int l5 h5) (hin : ((decide (lo ≤ l0) && decide (h0 ≤ hi)) && (decide (lo ≤ l1) && decide (h1 ≤ hi)) && (decide (lo ≤ l2) && decide (h2 ≤ hi)) && (decide (lo ≤ l3) && decide (h3 ≤ hi)) && (decide (lo ≤ l4) && decide (h4 ≤ hi)) && (decide (lo ≤ l5) && decide (h5 ≤ hi))) = true) (hA : ∀ s, o.dst = some s → A s = .sl 6 lo hi) : Steps Try.prog b rs c cost A o := by
  simp only [Bool.and_eq_true, decide_eq_true_eq] at hin
  intro a w q K Q hread hr hrs hq0 hq1 hK
  have k0 := good_tmp hread (x := y0) (by simp [h, Op.operands])
  rw [g0] at k0
  obtain ⟨x0, e0, a0, b0⟩ := k0
  have k1 := good_tmp hread (x := y1) (by simp [h, Op.operands])
  rw [g1] at k1
  obtain ⟨x1, e1, a1, b1⟩ := k1
  have k2 := good_tmp hread (x := y2) (by simp [h, Op.operands])
  rw [g2] at k2
  obtain ⟨x2, e2, a2, b2⟩ := k2
  have k3 := good_tmp hread (x := y3) (by simp [h, Op.operands])
  rw [g3] at k3
  obtain ⟨x3, e3, a3, b3⟩ := k3
  have k4 := good_tmp hread (x := y4) (by simp [h, Op.operands])
  rw [g4] at k4
  obtain ⟨x4, e4, a4, b4⟩ := k4
  have k5 := good_tmp hread (x := y5) (by simp [h, Op.operands])
  rw [g5] at k5
  obtain ⟨x5, e5, a5, b5⟩ := k5
  have hrun : (execOp a.eval o).run Try.prog w = .ok (.value (.slice (some ⟨w.heap.size, 0, none⟩) 6 6)) (w.alloc (.cells #[.int .i64 x0, .int .i64 x1, .int .i64 x2, .int .i64 x3, .int .i64 x4, .int .i64 x5] 3)) := by
    generalize a.eval = ρ at e0 e1 e2 e3 e4 e5
    simp [execOp, h, e0, e1, e2, e3, e4, e5, go_sem]
  unfold Oper.wp
  rw [hrun]
  show K _ _
  have hw : plus (w.setCell ⟨b, 1, none⟩ (.int .i64 q)) #[.cells #[.int .i64 x0, .int .i64 x1, .int .i64 x2, .int .i64 x3, .int .i64 x4, .int .i64 x5] 3] w.drawn = w.alloc (.cells #[.int .i64 x0, .int .i64 x1, .int .i64 x2, .int .i64 x3, .int .i64 x4, .int .i64 x5] 3) := by
    rw [setCell_self hr.at_, alloc_is_plus]
  have := hK (.slice (some ⟨w.heap.size, 0, none⟩) 6 6) q #[.cells #[.int .i64 x0, .int .i64 x1, .int .i64 x2, .int .i64 x3, .int .i64 x4, .int .i64 x5] 3] w.drawn (Int.le_refl _) (by omega) (fun s hs => ?_)
  · rw [hw] at this; exact this
  · rw [hA s hs, hw]
    refine ⟨_, rfl, off_new hr hrs, fun i hi => ?_⟩
    have hcell := World.cell?_alloc_new w #[.int .i64 x0, .int .i64 x1, .int .i64 x2, .int .i64 x3, .int .i64 x4, .int .i64 x5] 3 i
    match i, hi with
    | 0, _ => exact ⟨x0, hcell, by omega, by omega⟩
    | 1, _ => exact ⟨x1, hcell, by omega, by omega⟩
    | 2, _ => exact ⟨x2, hcell, by omega, by omega⟩
    | 3, _ => exact ⟨x3, hcell, by omega, by omega⟩
    | 4, _ => exact ⟨x4, hcell, by omega, by omega⟩
    | 5, _ => exact ⟨x5, hcell, by omega, by omega⟩

theorem steps_build7 (hc : 0 ≤ cost) (y0 y1 y2 y3 y4 y5 y6 : Operand) (lo hi l0 h0 l1 h1 l2 h2 l3 h3 l4 h4 l5 h5 l6 h6 : Int) (h : o.op = .buildSlice 62 7 #[(0, y0), (1, y1), (2, y2), (3, y3), (4, y4), (5, y5), (6, y6)]) (g0 : shOpd A y0 = .int l0 h0) (g1 : shOpd A y1 = .int l1 h1) (g2 : shOpd A y2 = .int l2 h2) (g3 : shOpd A y3 = .int l3 h3) (g4 : shOpd A y4 = .int l4 h4) (g5 : shOpd A y5 = .int l5 h5) (g6 : shOpd A y6 = .int l6 h6) (hin : ((decide (lo ≤ l0) && decide (h0 ≤ hi)) && (decide (lo ≤ l1) && decide (h1 ≤ hi)) && (decide (lo ≤ l2) && decide (h2 ≤ hi)) && (decide (lo ≤ l3) && decide (h3 ≤ hi)) && (decide (lo ≤ l4) && decide (h4 ≤ hi)) && (decide (lo ≤ l5) && decide (h5 ≤ hi)) && (decide (lo ≤ l6) && decide (h6 ≤ hi))) = true) (hA : ∀ s, o.dst = some s → A s = .sl 7 lo hi) : Steps Try.prog b rs c cost A o := by
  simp only [Bool.and_eq_true, decide_eq_true_eq] at hin
  intro a w q K Q hread hr hrs hq0 hq1 hK
  have k0 := good_tmp hread (x := y0) (by simp [h, Op.operands])
  rw [g0] at k0
  obtain ⟨x0, e0, a0, b0⟩ := k0
  have k1 := good_tmp hread (x := y1) (by simp [h, Op.operands])
  rw [g1] at k1
  obtain ⟨x1, e1, a1, b1⟩ := k1
  have k2 := good_tmp hread (x := y2) (by simp [h, Op.operands])
  rw [g2] at k2
  obtain ⟨x2, e2, a2, b2⟩ := k2
  have k3 := good_tmp hread (x := y3) (by simp [h, Op.operands])
  rw [g3] at k3
  obtain ⟨x3, e3, a3, b3⟩ := k3
  have k4 := good_tmp hread (x := y4) (by simp [h, Op.operands])
  rw [g4] at k4
  obtain ⟨x4, e4, a4, b4⟩ := k4
  have k5 := good_tmp hread (x := y5) (by simp [h, Op.operands])
  rw [g5] at k5
  obtain ⟨x5, e5, a5, b5⟩ := k5
  have k6 := good_tmp hread (x := y6) (by simp [h, Op.operands])
  rw [g6] at k6
  obtain ⟨x6, e6, a6, b6⟩ := k6
  have hrun : (execOp a.eval o).run Try.prog w = .ok (.value (.slice (some ⟨w.heap.size, 0, none⟩) 7 7)) (w.alloc (.cells #[.int .i64 x0, .int .i64 x1, .int .i64 x2, .int .i64 x3, .int .i64 x4, .int .i64 x5, .int .i64 x6] 3)) := by
    generalize a.eval = ρ at e0 e1 e2 e3 e4 e5 e6
    simp [execOp, h, e0, e1, e2, e3, e4, e5, e6, go_sem]
  unfold Oper.wp
  rw [hrun]
  show K _ _
  have hw : plus (w.setCell ⟨b, 1, none⟩ (.int .i64 q)) #[.cells #[.int .i64 x0, .int .i64 x1, .int .i64 x2, .int .i64 x3, .int .i64 x4, .int .i64 x5, .int .i64 x6] 3] w.drawn = w.alloc (.cells #[.int .i64 x0, .int .i64 x1, .int .i64 x2, .int .i64 x3, .int .i64 x4, .int .i64 x5, .int .i64 x6] 3) := by
    rw [setCell_self hr.at_, alloc_is_plus]
  have := hK (.slice (some ⟨w.heap.size, 0, none⟩) 7 7) q #[.cells #[.int .i64 x0, .int .i64 x1, .int .i64 x2, .int .i64 x3, .int .i64 x4, .int .i64 x5, .int .i64 x6] 3] w.drawn (Int.le_refl _) (by omega) (fun s hs => ?_)
  · rw [hw] at this; exact this
  · rw [hA s hs, hw]
    refine ⟨_, rfl, off_new hr hrs, fun i hi => ?_⟩
    have hcell := World.cell?_alloc_new w #[.int .i64 x0, .int .i64 x1, .int .i64 x2, .int .i64 x3, .int .i64 x4, .int .i64 x5, .int .i64 x6] 3 i
    match i, hi with
    | 0, _ => exact ⟨x0, hcell, by omega, by omega⟩
    | 1, _ => exact ⟨x1, hcell, by omega, by omega⟩
    | 2, _ => exact ⟨x2, hcell, by omega, by omega⟩
    | 3, _ => exact ⟨x3, hcell, by omega, by omega⟩
    | 4, _ => exact ⟨x4, hcell, by omega, by omega⟩
    | 5, _ => exact ⟨x5, hcell, by omega, by omega⟩
    | 6, _ => exact ⟨x6, hcell, by omega, by omega⟩

theorem steps_build8 (hc : 0 ≤ cost) (y0 y1 y2 y3 y4 y5 y6 y7 : Operand) (lo hi l0 h0 l1 h1 l2 h2 l3 h3 l4 h4 l5 h5 l6 h6 l7 h7 : Int) (h : o.op = .buildSlice 62 8 #[(0, y0), (1, y1), (2, y2), (3, y3), (4, y4), (5, y5), (6, y6), (7, y7)]) (g0 : shOpd A y0 = .int l0 h0) (g1 : shOpd A y1 = .int l1 h1) (g2 : shOpd A y2 = .int l2 h2) (g3 : shOpd A y3 = .int l3 h3) (g4 : shOpd A y4 = .int l4 h4) (g5 : shOpd A y5 = .int l5 h5) (g6 : shOpd A y6 = .int l6 h6) (g7 : shOpd A y7 = .int l7 h7) (hin : ((decide (lo ≤ l0) && decide (h0 ≤ hi)) && (decide (lo ≤ l1) && decide (h1 ≤ hi)) && (decide (lo ≤ l2) && decide (h2 ≤ hi)) && (decide (lo ≤ l3) && decide (h3 ≤ hi)) && (decide (lo ≤ l4) && decide (h4 ≤ hi)) && (decide (lo ≤ l5) && decide (h5 ≤ hi)) && (decide (lo ≤ l6) && decide (h6 ≤ hi)) && (decide (lo ≤ l7) && decide (h7 ≤ hi))) = true) (hA : ∀ s, o.dst = some s → A s = .sl 8 lo hi) : Steps Try.prog b rs c cost A o := by
  simp only [Bool.and_eq_true, decide_eq_true_eq] at hin
  intro a w q K Q hread hr hrs hq0 hq1 hK
  have k0 := good_tmp hread (x := y0) (by simp [h, Op.operands])
  rw [g0] at k0
  obtain ⟨x0, e0, a0, b0⟩ := k0
  have k1 := good_tmp hread (x := y1) (by simp [h, Op.operands])
  rw [g1] at k1
  obtain ⟨x1, e1, a1, b1⟩ := k1
  have k2 := good_tmp hread (x := y2) (by simp [h, Op.operands])
  rw [g2] at k2
  obtain ⟨x2, e2, a2, b2⟩ := k2
  have k3 := good_tmp hread (x := y3) (by simp [h, Op.operands])
  rw [g3] at k3
  obtain ⟨x3, e3, a3, b3⟩ := k3
  have k4 := good_tmp hread (x := y4) (by simp [h, Op.operands])
  rw [g4] at k4
  obtain ⟨x4, e4, a4, b4⟩ := k4
  have k5 := good_tmp hread (x := y5) (by simp [h, Op.operands])
  rw [g5] at k5
  obtain ⟨x5, e5, a5, b5⟩ := k5
  have k6 := good_tmp hread (x := y6) (by simp [h, Op.operands])
  rw [g6] at k6
  obtain ⟨x6, e6, a6, b6⟩ := k6
  have k7 := good_tmp hread (x := y7) (by simp [h, Op.operands])
  rw [g7] at k7
  obtain ⟨x7, e7, a7, b7⟩ := k7
  have hrun : (execOp a.eval o).run Try.prog w = .ok (.value (.slice (some ⟨w.heap.size, 0, none⟩) 8 8)) (w.alloc (.cells #[.int .i64 x0, .int .i64 x1, .int .i64 x2, .int .i64 x3, .int .i64 x4, .int .i64 x5, .int .i64 x6, .int .i64 x7] 3)) := by
    generalize a.eval = ρ at e0 e1 e2 e3 e4 e5 e6 e7
    simp [execOp, h, e0, e1, e2, e3, e4, e5, e6, e7, go_sem]
  unfold Oper.wp
  rw [hrun]
  show K _ _
  have hw : plus (w.setCell ⟨b, 1, none⟩ (.int .i64 q)) #[.cells #[.int .i64 x0, .int .i64 x1, .int .i64 x2, .int .i64 x3, .int .i64 x4, .int .i64 x5, .int .i64 x6, .int .i64 x7] 3] w.drawn = w.alloc (.cells #[.int .i64 x0, .int .i64 x1, .int .i64 x2, .int .i64 x3, .int .i64 x4, .int .i64 x5, .int .i64 x6, .int .i64 x7] 3) := by
    rw [setCell_self hr.at_, alloc_is_plus]
  have := hK (.slice (some ⟨w.heap.size, 0, none⟩) 8 8) q #[.cells #[.int .i64 x0, .int .i64 x1, .int .i64 x2, .int .i64 x3, .int .i64 x4, .int .i64 x5, .int .i64 x6, .int .i64 x7] 3] w.drawn (Int.le_refl _) (by omega) (fun s hs => ?_)
  · rw [hw] at this; exact this
  · rw [hA s hs, hw]
    refine ⟨_, rfl, off_new hr hrs, fun i hi => ?_⟩
    have hcell := World.cell?_alloc_new w #[.int .i64 x0, .int .i64 x1, .int .i64 x2, .int .i64 x3, .int .i64 x4, .int .i64 x5, .int .i64 x6, .int .i64 x7] 3 i
    match i, hi with
    | 0, _ => exact ⟨x0, hcell, by omega, by omega⟩
    | 1, _ => exact ⟨x1, hcell, by omega, by omega⟩
    | 2, _ => exact ⟨x2, hcell, by omega, by omega⟩
    | 3, _ => exact ⟨x3, hcell, by omega, by omega⟩
    | 4, _ => exact ⟨x4, hcell, by omega, by omega⟩
    | 5, _ => exact ⟨x5, hcell, by omega, by omega⟩
    | 6, _ => exact ⟨x6, hcell, by omega, by omega⟩
    | 7, _ => exact ⟨x7, hcell, by omega, by omega⟩

theorem steps_build9 (hc : 0 ≤ cost) (y0 y1 y2 y3 y4 y5 y6 y7 y8 : Operand) (lo hi l0 h0 l1 h1 l2 h2 l3 h3 l4 h4 l5 h5 l6 h6 l7 h7 l8 h8 : Int) (h : o.op = .buildSlice 62 9 #[(0, y0), (1, y1), (2, y2), (3, y3), (4, y4), (5, y5), (6, y6), (7, y7), (8, y8)]) (g0 : shOpd A y0 = .int l0 h0) (g1 : shOpd A y1 = .int l1 h1) (g2 : shOpd A y2 = .int l2 h2) (g3 : shOpd A y3 = .int l3 h3) (g4 : shOpd A y4 = .int l4 h4) (g5 : shOpd A y5 = .int l5 h5) (g6 : shOpd A y6 = .int l6 h6) (g7 : shOpd A y7 = .int l7 h7) (g8 : shOpd A y8 = .int l8 h8) (hin : ((decide (lo ≤ l0) && decide (h0 ≤ hi)) && (decide (lo ≤ l1) && decide (h1 ≤ hi)) && (decide (lo ≤ l2) && decide (h2 ≤ hi)) && (decide (lo ≤ l3) && decide (h3 ≤ hi)) && (decide (lo ≤ l4) && decide (h4 ≤ hi)) && (decide (lo ≤ l5) && decide (h5 ≤ hi)) && (decide (lo ≤ l6) && decide (h6 ≤ hi)) && (decide (lo ≤ l7) && decide (h7 ≤ hi)) && (decide (lo ≤ l8) && decide (h8 ≤ hi))) = true) (hA : ∀ s, o.dst = some s → A s = .sl 9 lo hi) : Steps Try.prog b rs c cost A o := by
  simp only [Bool.and_eq_true, decide_eq_true_eq] at hin
  intro a w q K Q hread hr hrs hq0 hq1 hK
  have k0 := good_tmp hread (x := y0) (by simp [h, Op.operands])
  rw [g0] at k0
  obtain ⟨x0, e0, a0, b0⟩ := k0
  have k1 := good_tmp hread (x := y1) (by simp [h, Op.operands])
  rw [g1] at k1
  obtain ⟨x1, e1, a1, b1⟩ := k1
  have k2 := good_tmp hread (x := y2) (by simp [h, Op.operands])
  rw [g2] at k2
  obtain ⟨x2, e2, a2, b2⟩ := k2
  have k3 := good_tmp hread (x := y3) (by simp [h, Op.operands])
  rw [g3] at k3
  obtain ⟨x3, e3, a3, b3⟩ := k3
  have k4 := good_tmp hread (x := y4) (by simp [h, Op.operands])
  rw [g4] at k4
  obtain ⟨x4, e4, a4, b4⟩ := k4
  have k5 := good_tmp hread (x := y5) (by simp [h, Op.operands])
  rw [g5] at k5
  obtain ⟨x5, e5, a5, b5⟩ := k5
  have k6 := good_tmp hread (x := y6) (by simp [h, Op.operands])
  rw [g6] at k6
  obtain ⟨x6, e6, a6, b6⟩ := k6
  have k7 := good_tmp hread (x := y7) (by simp [h, Op.operands])
  rw [g7] at k7
  obtain ⟨x7, e7, a7, b7⟩ := k7
  have k8 := good_tmp hread (x := y8) (by simp [h, Op.operands])
  rw [g8] at k8
  obtain ⟨x8, e8, a8, b8⟩ := k8
  have hrun : (execOp a.eval o).run Try.prog w = .ok (.value (.slice (some ⟨w.heap.size, 0, none⟩) 9 9)) (w.alloc (.cells #[.int .i64 x0, .int .i64 x1, .int .i64 x2, .int .i64 x3, .int .i64 x4, .int .i64 x5, .int .i64 x6, .int .i64 x7, .int .i64 x8] 3)) := by
    generalize a.eval = ρ at e0 e1 e2 e3 e4 e5 e6 e7 e8
    simp [execOp, h, e0, e1, e2, e3, e4, e5, e6, e7, e8, go_sem]
  unfold Oper.wp
  rw [hrun]
  show K _ _
  have hw : plus (w.setCell ⟨b, 1, none⟩ (.int .i64 q)) #[.cells #[.int .i64 x0, .int .i64 x1, .int .i64 x2, .int .i64 x3, .int .i64 x4, .int .i64 x5, .int .i64 x6, .int .i64 x7, .int .i64 x8] 3] w.drawn = w.alloc (.cells #[.int .i64 x0, .int .i64 x1, .int .i64 x2, .int .i64 x3, .int .i64 x4, .int .i64 x5, .int .i64 x6, .int .i64 x7, .int .i64 x8] 3) := by
    rw [setCell_self hr.at_, alloc_is_plus]
  have := hK (.slice (some ⟨w.heap.size, 0, none⟩) 9 9) q #[.cells #[.int .i64 x0, .int .i64 x1, .int .i64 x2, .int .i64 x3, .int .i64 x4, .int .i64 x5, .int .i64 x6, .int .i64 x7, .int .i64 x8] 3] w.drawn (Int.le_refl _) (by omega) (fun s hs => ?_)
  · rw [hw] at this; exact this
  · rw [hA s hs, hw]
    refine ⟨_, rfl, off_new hr hrs, fun i hi => ?_⟩
    have hcell := World.cell?_alloc_new w #[.int .i64 x0, .int .i64 x1, .int .i64 x2, .int .i64 x3, .int .i64 x4, .int .i64 x5, .int .i64 x6, .int .i64 x7, .int .i64 x8] 3 i
    match i, hi with
    | 0, _ => exact ⟨x0, hcell, by omega, by omega⟩
    | 1, _ => exact ⟨x1, hcell, by omega, by omega⟩
    | 2, _ => exact ⟨x2, hcell, by omega, by omega⟩
    | 3, _ => exact ⟨x3, hcell, by omega, by omega⟩
    | 4, _ => exact ⟨x4, hcell, by omega, by omega⟩
    | 5, _ => exact ⟨x5, hcell, by omega, by omega⟩
    | 6, _ => exact ⟨x6, hcell, by omega, by omega⟩
    | 7, _ => exact ⟨x7, hcell, by omega, by omega⟩
    | 8, _ => exact ⟨x8, hcell, by omega, by omega⟩

theorem steps_build10 (hc : 0 ≤ cost) (y0 y1 y2 y3 y4 y5 y6 y7 y8 y9 : Operand) (lo hi l0 h0 l1 h1 l2 h2 l3 h3 l4 h4 l5 h5 l6 h6 l7 h7 l8 h8 l9 h9 : Int) (h : o.op = .buildSlice 62 10 #[(0, y0), (1, y1), (2, y2), (3, y3), (4, y4), (5, y5), (6, y6), (7, y7), (8, y8), (9, y9)]) (g0 : shOpd A y0 = .int l0 h0) (g1 : shOpd A y1 = .int l1 h1) (g2 : shOpd A y2 = .int l2 h2) (g3 : shOpd A y3 = .int l3 h3) (g4 : shOpd A y4 = .int l4 h4) (g5 : shOpd A y5 = .int l5 h5) (g6 : shOpd A y6 = .int l6 h6) (g7 : shOpd A y7 = .int l7 h7) (g8 : shOpd A y8 = .int l8 h8) (g9 : shOpd A y9 = .int l9 h9) (hin : ((decide (lo ≤ l0) && decide (h0 ≤ hi)) && (decide (lo ≤ l1) && decide (h1 ≤ hi)) && (decide (lo ≤ l2) && decide (h2 ≤ hi)) && (decide (lo ≤ l3) && decide (h3 ≤ hi)) && (decide (lo ≤ l4) && decide (h4 ≤ hi)) && (decide (lo ≤ l5) && decide (h5 ≤ hi)) && (decide (lo ≤ l6) && decide (h6 ≤ hi)) && (decide (lo ≤ l7) && decide (h7 ≤ hi)) && (decide (lo ≤ l8) && decide (h8 ≤ hi)) && (decide (lo ≤ l9) && decide (h9 ≤ hi))) = true) (hA : ∀ s, o.dst = some s → A s = .sl 10 lo hi) : Steps Try.prog b rs c cost A o := by
  simp only [Bool.and_eq_true, decide_eq_true_eq] at hin
  intro a w q K Q hread hr hrs hq0 hq1 hK
  have k0 := good_tmp hread (x := y0) (by simp [h, Op.operands])
  rw [g0] at k0
  obtain ⟨x0, e0, a0, b0⟩ := k0
  have k1 := good_tmp hread (x := y1) (by simp [h, Op.operands])
  rw [g1] at k1
  obtain ⟨x1, e1, a1, b1⟩ := k1
  have k2 := good_tmp hread (x := y2) (by simp [h, Op.operands])
  rw [g2] at k2
  obtain ⟨x2, e2, a2, b2⟩ := k2
  have k3 := good_tmp hread (x := y3) (by simp [h, Op.operands])
  rw [g3] at k3
  obtain ⟨x3, e3, a3, b3⟩ := k3
  have k4 := good_tmp hread (x := y4) (by simp [h, Op.operands])
  rw [g4] at k4
  obtain ⟨x4, e4, a4, b4⟩ := k4
  have k5 := good_tmp hread (x := y5) (by simp [h, Op.operands])
  rw [g5] at k5
  obtain ⟨x5, e5, a5, b5⟩ := k5
  have k6 := good_tmp hread (x := y6) (by simp [h, Op.operands])
  rw [g6] at k6
  obtain ⟨x6, e6, a6, b6⟩ := k6
  have k7 := good_tmp hread (x := y7) (by simp [h, Op.operands])
  rw [g7] at k7
  obtain ⟨x7, e7, a7, b7⟩ := k7
  have k8 := good_tmp hread (x := y8) (by simp [h, Op.operands])
  rw [g8] at k8
  obtain ⟨x8, e8, a8, b8⟩ := k8
  have k9 := good_tmp hread (x := y9) (by simp [h, Op.operands])
  rw [g9] at k9
  obtain ⟨x9, e9, a9, b9⟩ := k9
  have hrun : (execOp a.eval o).run Try.prog w = .ok (.value (.slice (some ⟨w.heap.size, 0, none⟩) 10 10)) (w.alloc (.cells #[.int .i64 x0, .int .i64 x1, .int .i64 x2, .int .i64 x3, .int .i64 x4, .int .i64 x5, .int .i64 x6, .int .i64 x7, .int .i64 x8, .int .i64 x9] 3)) := by
    generalize a.eval = ρ at e0 e1 e2 e3 e4 e5 e6 e7 e8 e9
    simp [execOp, h, e0, e1, e2, e3, e4, e5, e6, e7, e8, e9, go_sem]
  unfold Oper.wp
  rw [hrun]
  show K _ _
  have hw : plus (w.setCell ⟨b, 1, none⟩ (.int .i64 q)) #[.cells #[.int .i64 x0, .int .i64 x1, .int .i64 x2, .int .i64 x3, .int .i64 x4, .int .i64 x5, .int .i64 x6, .int .i64 x7, .int .i64 x8, .int .i64 x9] 3] w.drawn = w.alloc (.cells #[.int .i64 x0, .int .i64 x1, .int .i64 x2, .int .i64 x3, .int .i64 x4, .int .i64 x5, .int .i64 x6, .int .i64 x7, .int .i64 x8, .int .i64 x9] 3) := by
    rw [setCell_self hr.at_, alloc_is_plus]
  have := hK (.slice (some ⟨w.heap.size, 0, none⟩) 10 10) q #[.cells #[.int .i64 x0, .int .i64 x1, .int .i64 x2, .int .i64 x3, .int .i64 x4, .int .i64 x5, .int .i64 x6, .int .i64 x7, .int .i64 x8, .int .i64 x9] 3] w.drawn (Int.le_refl _) (by omega) (fun s hs => ?_)
  · rw [hw] at this; exact this
  · rw [hA s hs, hw]
    refine ⟨_, rfl, off_new hr hrs, fun i hi => ?_⟩
    have hcell := World.cell?_alloc_new w #[.int .i64 x0, .int .i64 x1, .int .i64 x2, .int .i64 x3, .int .i64 x4, .int .i64 x5, .int .i64 x6, .int .i64 x7, .int .i64 x8, .int .i64 x9] 3 i
    match i, hi with
    | 0, _ => exact ⟨x0, hcell, by omega, by omega⟩
    | 1, _ => exact ⟨x1, hcell, by omega, by omega⟩
    | 2, _ => exact ⟨x2, hcell, by omega, by omega⟩
    | 3, _ => exact ⟨x3, hcell, by omega, by omega⟩
    | 4, _ => exact ⟨x4, hcell, by omega, by omega⟩
    | 5, _ => exact ⟨x5, hcell, by omega, by omega⟩
    | 6, _ => exact ⟨x6, hcell, by omega, by omega⟩
    | 7, _ => exact ⟨x7, hcell, by omega, by omega⟩
    | 8, _ => exact ⟨x8, hcell, by omega, by omega⟩
    | 9, _ => exact ⟨x9, hcell, by omega, by omega⟩

end
end Go.Proofs.Ytnflmbmhncndfaa
