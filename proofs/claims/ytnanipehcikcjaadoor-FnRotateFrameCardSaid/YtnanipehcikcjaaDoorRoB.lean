/-
  Blocks that hold frames and points; steps of a region that draws its order. Conditions: those that each theorem states.
-/
import Derived.Test.YtnanipehcikcjaaDoorRoS2
import Derived.Test.YtnanipehcikcjaaDoorLastG
import Derived.Shelf.Abstract
namespace Go.Proofs.YtnanipehcikcjaaDoor
set_option linter.unusedSimpArgs false
open Go.RowKit

/-- A block that holds a frame. -/
structure BoxF (w : World) (r : Nat) (x y q : Int) : Prop where
  lt : r < w.heap.size
  c0 : w.cell? ⟨r, 0, none⟩ = some (.int .i64 x)
  c1 : w.cell? ⟨r, 1, none⟩ = some (.int .i64 y)
  c2 : w.cell? ⟨r, 2, none⟩ = some (.int .i64 q)
theorem BoxF.below {w w' : World} {r : Nat} {x y q : Int} (h : BoxF w r x y q) (hb : Below w.heap.size w w') : BoxF w' r x y q :=
  ⟨Nat.lt_of_lt_of_le h.lt hb.size, (hb.cell (p := ⟨r, 0, none⟩) h.lt).trans h.c0, (hb.cell (p := ⟨r, 1, none⟩) h.lt).trans h.c1, (hb.cell (p := ⟨r, 2, none⟩) h.lt).trans h.c2⟩
theorem BoxF.blocks {w w' : World} {r : Nat} {x y q : Int} (h : BoxF w r x y q) (hb : w'.heap = w.heap) : BoxF w' r x y q :=
  ⟨by rw [hb]; exact h.lt, (World.cell?_of_block (by rw [hb])).trans h.c0, (World.cell?_of_block (by rw [hb])).trans h.c1, (World.cell?_of_block (by rw [hb])).trans h.c2⟩
theorem pure_load3 {w0 : World} {A : Act} {o : Oper} (x : Operand) (r : Nat) (x0 x1 x2 : Int) (h : o.op = .load 24 x) (hx : A.eval x = .pointer (some ⟨r, 0, none⟩)) (hb : BoxF w0 r x0 x1 x2) (hv : gd A (o.dst.getD 0) = .agg #[.int .i64 x0, .int .i64 x1, .int .i64 x2]) : PureStep Tryd.prog w0 A o := by
  refine pure_quiet fun a os d hg => ?_
  have gx := (hg x (by simp [h, Op.operands])).trans hx
  rw [hv]
  obtain ⟨_, c0, c1, c2⟩ := hb.below (below_plus (Below.refl _ _) os d)
  generalize a.eval = ρ at gx
  generalize plus w0 os d = W at c0 c1 c2
  simp [execOp, h, gx, Instr.loadAt, go_sem, c0, c1, c2]
/-- A block that holds a point. -/
structure BoxP (w : World) (r : Nat) (x y : Int) : Prop where
  lt : r < w.heap.size
  c0 : w.cell? ⟨r, 0, none⟩ = some (.int .i64 x)
  c1 : w.cell? ⟨r, 1, none⟩ = some (.int .i64 y)
theorem BoxP.below {w w' : World} {r : Nat} {x y : Int} (h : BoxP w r x y) (hb : Below w.heap.size w w') : BoxP w' r x y :=
  ⟨Nat.lt_of_lt_of_le h.lt hb.size, (hb.cell (p := ⟨r, 0, none⟩) h.lt).trans h.c0, (hb.cell (p := ⟨r, 1, none⟩) h.lt).trans h.c1⟩
theorem BoxP.blocks {w w' : World} {r : Nat} {x y : Int} (h : BoxP w r x y) (hb : w'.heap = w.heap) : BoxP w' r x y :=
  ⟨by rw [hb]; exact h.lt, (World.cell?_of_block (by rw [hb])).trans h.c0, (World.cell?_of_block (by rw [hb])).trans h.c1⟩
theorem pure_load2 {w0 : World} {A : Act} {o : Oper} (x : Operand) (r : Nat) (x0 x1 : Int) (h : o.op = .load 26 x) (hx : A.eval x = .pointer (some ⟨r, 0, none⟩)) (hb : BoxP w0 r x0 x1) (hv : gd A (o.dst.getD 0) = .agg #[.int .i64 x0, .int .i64 x1]) : PureStep Tryd.prog w0 A o := by
  refine pure_quiet fun a os d hg => ?_
  have gx := (hg x (by simp [h, Op.operands])).trans hx
  rw [hv]
  obtain ⟨_, c0, c1⟩ := hb.below (below_plus (Below.refl _ _) os d)
  generalize a.eval = ρ at gx
  generalize plus w0 os d = W at c0 c1
  simp [execOp, h, gx, Instr.loadAt, go_sem, c0, c1]
theorem pure_load1 {w0 : World} {A : Act} {o : Oper} (x : Operand) (r i : Nat) (x0 : Int) (h : o.op = .load 3 x) (hx : A.eval x = .pointer (some ⟨r, i, none⟩)) (hr : r < w0.heap.size) (hb : w0.cell? ⟨r, i, none⟩ = some (.int .i64 x0)) (hv : gd A (o.dst.getD 0) = .int .i64 x0) : PureStep Tryd.prog w0 A o := by
  refine pure_quiet fun a os d hg => ?_
  have gx := (hg x (by simp [h, Op.operands])).trans hx
  rw [hv]
  have c0 := (plus_cell (os := os) (d := d) r i hr).trans hb
  generalize a.eval = ρ at gx
  generalize plus w0 os d = W at c0
  simp [execOp, h, gx, Instr.loadAt, go_sem, c0]
theorem last_quiet2 {o : Oper} {a : Act} {w : World} {K : Act → World → Prop} {Q : Exit → Act → World → Prop} (d : Nat) (r : Value) (x y : Operand) (u v : Value) (hd : o.dst = some d) (hx : a.eval x = u) (hy : a.eval y = v) (hrun : ∀ ρ : Operand → Value, ρ x = u → ρ y = v → (execOp ρ o).run Tryd.prog w = .ok (.value r) w) (hk : K (a.put (some d) r) w) : o.wp Tryd.prog a w K Q := by
  rw [← hd] at hk
  unfold Oper.wp
  rw [hrun a.eval hx hy]
  exact hk
theorem last_assign {o : Oper} {a : Act} {w : World} {K : Act → World → Prop} {Q : Exit → Act → World → Prop} (x : Operand) (d : Nat) (v : Value) (h : o.op = .assign x) (hd : o.dst = some d) (hv : a.eval x = v) (hk : K (a.put (some d) v) w) : o.wp Tryd.prog a w K Q := by
  rw [← hd] at hk
  unfold Oper.wp
  generalize a.eval = ρ at hv
  simp [execOp, h, hv, go_sem]
  exact hk
theorem wp_forget {P : Program} {c : Code} {Q : Exit → Act → World → Prop} {a : Act} {w : World} (S : World → Prop) (h : S w) (hk : ∀ W, S W → c.wp P Q a W) : c.wp P Q a w := hk w h

theorem last_quiet3 {o : Oper} {a : Act} {w : World} {K : Act → World → Prop} {Q : Exit → Act → World → Prop} (d : Nat) (r : Value) (x y : Operand) (u v : Value) (hd : o.dst = some d) (hx : a.eval x = u) (hy : a.eval y = v) (hrun : ∀ ρ : Operand → Value, (∀ v, ρ (.const v) = v) → ρ x = u → ρ y = v → (execOp ρ o).run Tryd.prog w = .ok (.value r) w) (hk : K (a.put (some d) r) w) : o.wp Tryd.prog a w K Q := by
  rw [← hd] at hk
  unfold Oper.wp
  rw [hrun a.eval (fun _ => rfl) hx hy]
  exact hk
theorem last_store {o : Oper} {a : Act} {w : World} {K : Act → World → Prop} {Q : Exit → Act → World → Prop} (x y : Operand) (r : Nat) (z1 z2 : Int) (u0 u1 : Value) (h : o.op = .store 26 x y) (hd : o.dst = none) (hx : a.eval x = .pointer (some ⟨r, 0, none⟩)) (hy : a.eval y = .agg #[.int .i64 z1, .int .i64 z2])
    (c0 : w.cell? ⟨r, 0, none⟩ = some u0) (c1 : w.cell? ⟨r, 1, none⟩ = some u1) (f0 : w.frozen? ⟨r, 0, none⟩ = false) (f1 : w.frozen? ⟨r, 1, none⟩ = false) (hk : K a ((w.setCell ⟨r, 0, none⟩ (.int .i64 z1)).setCell ⟨r, 1, none⟩ (.int .i64 z2))) : o.wp Tryd.prog a w K Q := by
  have hrun : (execOp a.eval o).run Tryd.prog w = .ok .skip ((w.setCell ⟨r, 0, none⟩ (.int .i64 z1)).setCell ⟨r, 1, none⟩ (.int .i64 z2)) := by
    generalize a.eval = ρ at hx hy
    simp [execOp, h, hx, hy, Instr.storeAt, go_sem, c0, c1, f0, f1]
  unfold Oper.wp
  rw [hrun]
  show K (a.put o.dst undef) _
  rw [hd]
  exact hk

end Go.Proofs.YtnanipehcikcjaaDoor
