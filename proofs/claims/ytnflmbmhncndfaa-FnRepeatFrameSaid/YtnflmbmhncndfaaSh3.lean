/-
  A drawn region of the seat's draws, by the shapes of its values: the shapes are computed from the region's text. No condition beyond those that each theorem states.
-/
import Derived.Test.YtnflmbmhncndfaaSh2
namespace Go.Proofs.Ytnflmbmhncndfaa
open Go.RowKit
section
variable {b : Nat} {rs : List Nat} {c : Option Addr × Nat × Nat} {cost : Int} {A : Nat → Sh} {o : Oper}

/-- A quotient of a number ≥ 0 by a constant k ≥ 1. -/
theorem steps_quoK (hc : 0 ≤ cost) (x y : Operand) (l1 h1 k : Int) (h : o.op = .binOp .quo 3 x y 3) (hx : shOpd A x = .int l1 h1) (hy : shOpd A y = .int k k) (hin : (decide (1 ≤ k) && decide (0 ≤ l1) && decide (h1 ≤ 1000000) && decide (k ≤ 1000000)) = true) (hA : ∀ s, o.dst = some s → A s = .int 0 (h1 / k)) : Steps Try.prog b rs c cost A o := by
  simp only [Bool.and_eq_true, decide_eq_true_eq] at hin
  obtain ⟨⟨⟨k0, i1⟩, i2⟩, i3⟩ := hin
  refine steps_quiet hc _ hA fun a w hg => ?_
  have gx := hg x (by simp [h, Op.operands])
  have gy := hg y (by simp [h, Op.operands])
  rw [hx] at gx; rw [hy] at gy
  obtain ⟨u, ex, u1, u2⟩ := gx
  obtain ⟨v, ey, v1, v2⟩ := gy
  have hv : v = k := by omega
  subst hv
  have m1 : u / v ≤ h1 / v := Int.ediv_le_ediv (by omega) u2
  have m0 : 0 ≤ u / v := Int.ediv_nonneg (by omega) (by omega)
  refine ⟨.int .i64 (u / v), ?_, u / v, rfl, m0, m1⟩
  have mle : u / v ≤ u := Int.ediv_le_self _ (by omega)
  have e := IntWalk.i64_in (u / v) (by omega)
  have et : u.tdiv v = u / v := Int.tdiv_eq_ediv_of_nonneg (by omega)
  have hz : v ≠ 0 := by omega
  generalize a.eval = ρ at ex ey
  simp [execOp, h, ex, ey, eqGuard, binOp, Op.intDiv, go_sem, e, et, hz]

/-- The greater of two. -/
theorem steps_max (hc : 0 ≤ cost) (x y : Operand) (l1 h1 l2 h2 : Int) (h : o.op = .call { callee := .builtin .max, args := #[x, y], argTypes := #[3, 3] }) (ht : o.type = 3) (hx : shOpd A x = .int l1 h1) (hy : shOpd A y = .int l2 h2) (hA : ∀ s, o.dst = some s → A s = .int (if l1 ≤ l2 then l2 else l1) (if h1 ≤ h2 then h2 else h1)) : Steps Try.prog b rs c cost A o := by
  refine steps_quiet hc _ hA fun a w hg => ?_
  have gx := hg x (by simp [h, Op.operands, Call.operands])
  have gy := hg y (by simp [h, Op.operands, Call.operands])
  rw [hx] at gx; rw [hy] at gy
  obtain ⟨u, ex, u1, u2⟩ := gx
  obtain ⟨v, ey, v1, v2⟩ := gy
  refine ⟨.int .i64 (if v > u then v else u), ?_, _, rfl, ?_, ?_⟩
  · generalize a.eval = ρ at ex ey
    by_cases hlt : v > u
    · simp [execOp, h, ht, resolve, invoke, builtin, Builtin.max_, Builtin.max2, ex, ey, go_sem, hlt]
    · simp [execOp, h, ht, resolve, invoke, builtin, Builtin.max_, Builtin.max2, ex, ey, go_sem, hlt]
  · split <;> split <;> omega
  · split <;> split <;> omega

/-- A struct of 3 ints is built. -/
theorem steps_agg_fr (hc : 0 ≤ cost) (y0 y1 y2 : Operand) (l0 h0 l1 h1 l2 h2 : Int) (h : o.op = .build 25 #[(0, y0), (1, y1), (2, y2)]) (g0 : shOpd A y0 = .int l0 h0) (g1 : shOpd A y1 = .int l1 h1) (g2 : shOpd A y2 = .int l2 h2) (hA : ∀ s, o.dst = some s → A s = .agg [(l0, h0), (l1, h1), (l2, h2)]) : Steps Try.prog b rs c cost A o := by
  refine steps_quiet hc _ hA fun a w hg => ?_
  have k0 := hg y0 (by simp [h, Op.operands])
  rw [g0] at k0
  obtain ⟨x0, e0, a0, b0⟩ := k0
  have k1 := hg y1 (by simp [h, Op.operands])
  rw [g1] at k1
  obtain ⟨x1, e1, a1, b1⟩ := k1
  have k2 := hg y2 (by simp [h, Op.operands])
  rw [g2] at k2
  obtain ⟨x2, e2, a2, b2⟩ := k2
  refine ⟨.agg #[.int .i64 x0, .int .i64 x1, .int .i64 x2], ?_, [.int .i64 x0, .int .i64 x1, .int .i64 x2], rfl, x0, _, rfl, ⟨a0, b0⟩, x1, _, rfl, ⟨a1, b1⟩, x2, _, rfl, ⟨a2, b2⟩, rfl⟩
  generalize a.eval = ρ at e0 e1 e2
  simp [execOp, h, e0, e1, e2, go_sem]

/-- A struct is read. -/
theorem steps_read_fr (hc : 0 ≤ cost) (x : Operand) (l0 h0 l1 h1 l2 h2 : Int) (h : o.op = .load 25 x) (hx : shOpd A x = .box [(l0, h0), (l1, h1), (l2, h2)]) (hA : ∀ s, o.dst = some s → A s = .agg [(l0, h0), (l1, h1), (l2, h2)]) : Steps Try.prog b rs c cost A o := by
  refine steps_quiet hc _ hA fun a w hg => ?_
  have gx := hg x (by simp [h, Op.operands])
  rw [hx] at gx
  obtain ⟨k, ex, hk, ⟨x0, c0, a0, b0⟩, ⟨x1, c1, a1, b1⟩, ⟨x2, c2, a2, b2⟩, _⟩ := gx
  simp only [Nat.zero_add, Nat.reduceAdd] at c0 c1 c2
  refine ⟨.agg #[.int .i64 x0, .int .i64 x1, .int .i64 x2], ?_, [.int .i64 x0, .int .i64 x1, .int .i64 x2], rfl, x0, _, rfl, ⟨a0, b0⟩, x1, _, rfl, ⟨a1, b1⟩, x2, _, rfl, ⟨a2, b2⟩, rfl⟩
  generalize a.eval = ρ at ex
  simp [execOp, h, ex, Instr.loadAt, go_sem, c0, c1, c2]

theorem steps_at_fr0 (hc : 0 ≤ cost) (x : Operand) (l0 h0 l1 h1 l2 h2 : Int) (h : o.op = .fieldAddr 25 x 0) (hx : shOpd A x = .box [(l0, h0), (l1, h1), (l2, h2)]) (hA : ∀ s, o.dst = some s → A s = .ptr l0 h0) : Steps Try.prog b rs c cost A o := by
  refine steps_quiet hc _ hA fun a w hg => ?_
  have gx := hg x (by simp [h, Op.operands])
  rw [hx] at gx
  obtain ⟨k, ex, hk, c0, c1, c2, _⟩ := gx
  refine ⟨.pointer (some ⟨k, 0, none⟩), ?_, k, 0, rfl, hk, c0⟩
  generalize a.eval = ρ at ex
  simp [execOp, h, ex, Instr.fieldAt, go_sem]

theorem steps_at_fr1 (hc : 0 ≤ cost) (x : Operand) (l0 h0 l1 h1 l2 h2 : Int) (h : o.op = .fieldAddr 25 x 1) (hx : shOpd A x = .box [(l0, h0), (l1, h1), (l2, h2)]) (hA : ∀ s, o.dst = some s → A s = .ptr l1 h1) : Steps Try.prog b rs c cost A o := by
  refine steps_quiet hc _ hA fun a w hg => ?_
  have gx := hg x (by simp [h, Op.operands])
  rw [hx] at gx
  obtain ⟨k, ex, hk, c0, c1, c2, _⟩ := gx
  refine ⟨.pointer (some ⟨k, 1, none⟩), ?_, k, 1, rfl, hk, c1⟩
  generalize a.eval = ρ at ex
  simp [execOp, h, ex, Instr.fieldAt, go_sem]

theorem steps_at_fr2 (hc : 0 ≤ cost) (x : Operand) (l0 h0 l1 h1 l2 h2 : Int) (h : o.op = .fieldAddr 25 x 2) (hx : shOpd A x = .box [(l0, h0), (l1, h1), (l2, h2)]) (hA : ∀ s, o.dst = some s → A s = .ptr l2 h2) : Steps Try.prog b rs c cost A o := by
  refine steps_quiet hc _ hA fun a w hg => ?_
  have gx := hg x (by simp [h, Op.operands])
  rw [hx] at gx
  obtain ⟨k, ex, hk, c0, c1, c2, _⟩ := gx
  refine ⟨.pointer (some ⟨k, 2, none⟩), ?_, k, 2, rfl, hk, c2⟩
  generalize a.eval = ρ at ex
  simp [execOp, h, ex, Instr.fieldAt, go_sem]

/-- A struct is stored into a result. -/
theorem stores_fr (x : Nat) (y : Operand) (r : Nat) (T : TypeId) (L0 H0 L1 H1 L2 H2 l0 h0 l1 h1 l2 h2 : Int) (h : o.op = .store 25 (.tmp x) y) (hx : A x = .res r T [(L0, H0), (L1, H1), (L2, H2)]) (hy : shOpd A y = .agg [(l0, h0), (l1, h1), (l2, h2)]) (hin : (decide (L0 ≤ l0) && decide (h0 ≤ H0) && decide (L1 ≤ l1) && decide (h1 ≤ H1) && decide (L2 ≤ l2) && decide (h2 ≤ H2)) = true) : Stores Try.prog b rs A o := by
  simp only [Bool.and_eq_true, decide_eq_true_eq] at hin
  refine ⟨r, T, [(L0, H0), (L1, H1), (L2, H2)], by simp [storesTo, h, hx], fun a w K Q hread hK => ?_⟩
  have gx := hread x (by unfold readsOf; rw [h]; simp [Op.operands])
  rw [hx] at gx
  obtain ⟨ex, hrs, hrb, cs, hblk, hsz⟩ := gx
  have gy := good_tmp hread (x := y) (by simp [h, Op.operands])
  rw [hy] at gy
  obtain ⟨vs, ey, x0, vs0, rfl, ⟨a0, b0⟩, x1, vs1, rfl, ⟨a1, b1⟩, x2, vs2, rfl, ⟨a2, b2⟩, rfl⟩ := gy
  have hcs : (∃ u, w.cell? ⟨r, 0, none⟩ = some u) ∧ (∃ u, w.cell? ⟨r, 1, none⟩ = some u) ∧ (∃ u, w.cell? ⟨r, 2, none⟩ = some u) := by
    simp at hsz
    refine ⟨cell_some hblk (by omega), cell_some hblk (by omega), cell_some hblk (by omega)⟩
  obtain ⟨⟨u0, d0⟩, ⟨u1, d1⟩, ⟨u2, d2⟩⟩ := hcs
  have f0 : w.frozen? ⟨r, 0, none⟩ = false := frozen_of_row w r 0 cs T hblk
  have f1 : w.frozen? ⟨r, 1, none⟩ = false := frozen_of_row w r 1 cs T hblk
  have f2 : w.frozen? ⟨r, 2, none⟩ = false := frozen_of_row w r 2 cs T hblk
  have hrun : (execOp a.eval o).run Try.prog w = .ok .skip (((w.setCell ⟨r, 0, none⟩ (.int .i64 x0)).setCell ⟨r, 1, none⟩ (.int .i64 x1)).setCell ⟨r, 2, none⟩ (.int .i64 x2)) := by
    have ex' : a.eval (.tmp x) = .pointer (some ⟨r, 0, none⟩) := ex
    generalize a.eval = ρ at ex' ey
    simp [execOp, h, ex', ey, Instr.storeAt, go_sem, d0, f0, d1, f1, d2, f2]
  unfold Oper.wp
  rw [hrun]
  show K (a.put o.dst undef) _
  obtain ⟨h1, h2, h3⟩ := set3 hblk (by simpa using hsz) x0 x1 x2
  exact hK _ h1 h2 ⟨⟨x0, h3.1, by omega, by omega⟩, ⟨x1, h3.2.1, by omega, by omega⟩, ⟨x2, h3.2.2, by omega, by omega⟩, trivial⟩ hrs hrb

/-- A struct of 2 ints is built. -/
theorem steps_agg_pt (hc : 0 ≤ cost) (y0 y1 : Operand) (l0 h0 l1 h1 : Int) (h : o.op = .build 37 #[(0, y0), (1, y1)]) (g0 : shOpd A y0 = .int l0 h0) (g1 : shOpd A y1 = .int l1 h1) (hA : ∀ s, o.dst = some s → A s = .agg [(l0, h0), (l1, h1)]) : Steps Try.prog b rs c cost A o := by
  refine steps_quiet hc _ hA fun a w hg => ?_
  have k0 := hg y0 (by simp [h, Op.operands])
  rw [g0] at k0
  obtain ⟨x0, e0, a0, b0⟩ := k0
  have k1 := hg y1 (by simp [h, Op.operands])
  rw [g1] at k1
  obtain ⟨x1, e1, a1, b1⟩ := k1
  refine ⟨.agg #[.int .i64 x0, .int .i64 x1], ?_, [.int .i64 x0, .int .i64 x1], rfl, x0, _, rfl, ⟨a0, b0⟩, x1, _, rfl, ⟨a1, b1⟩, rfl⟩
  generalize a.eval = ρ at e0 e1
  simp [execOp, h, e0, e1, go_sem]

/-- A struct is read. -/
theorem steps_read_pt (hc : 0 ≤ cost) (x : Operand) (l0 h0 l1 h1 : Int) (h : o.op = .load 37 x) (hx : shOpd A x = .box [(l0, h0), (l1, h1)]) (hA : ∀ s, o.dst = some s → A s = .agg [(l0, h0), (l1, h1)]) : Steps Try.prog b rs c cost A o := by
  refine steps_quiet hc _ hA fun a w hg => ?_
  have gx := hg x (by simp [h, Op.operands])
  rw [hx] at gx
  obtain ⟨k, ex, hk, ⟨x0, c0, a0, b0⟩, ⟨x1, c1, a1, b1⟩, _⟩ := gx
  simp only [Nat.zero_add, Nat.reduceAdd] at c0 c1
  refine ⟨.agg #[.int .i64 x0, .int .i64 x1], ?_, [.int .i64 x0, .int .i64 x1], rfl, x0, _, rfl, ⟨a0, b0⟩, x1, _, rfl, ⟨a1, b1⟩, rfl⟩
  generalize a.eval = ρ at ex
  simp [execOp, h, ex, Instr.loadAt, go_sem, c0, c1]

theorem steps_at_pt0 (hc : 0 ≤ cost) (x : Operand) (l0 h0 l1 h1 : Int) (h : o.op = .fieldAddr 37 x 0) (hx : shOpd A x = .box [(l0, h0), (l1, h1)]) (hA : ∀ s, o.dst = some s → A s = .ptr l0 h0) : Steps Try.prog b rs c cost A o := by
  refine steps_quiet hc _ hA fun a w hg => ?_
  have gx := hg x (by simp [h, Op.operands])
  rw [hx] at gx
  obtain ⟨k, ex, hk, c0, c1, _⟩ := gx
  refine ⟨.pointer (some ⟨k, 0, none⟩), ?_, k, 0, rfl, hk, c0⟩
  generalize a.eval = ρ at ex
  simp [execOp, h, ex, Instr.fieldAt, go_sem]

theorem steps_at_pt1 (hc : 0 ≤ cost) (x : Operand) (l0 h0 l1 h1 : Int) (h : o.op = .fieldAddr 37 x 1) (hx : shOpd A x = .box [(l0, h0), (l1, h1)]) (hA : ∀ s, o.dst = some s → A s = .ptr l1 h1) : Steps Try.prog b rs c cost A o := by
  refine steps_quiet hc _ hA fun a w hg => ?_
  have gx := hg x (by simp [h, Op.operands])
  rw [hx] at gx
  obtain ⟨k, ex, hk, c0, c1, _⟩ := gx
  refine ⟨.pointer (some ⟨k, 1, none⟩), ?_, k, 1, rfl, hk, c1⟩
  generalize a.eval = ρ at ex
  simp [execOp, h, ex, Instr.fieldAt, go_sem]

/-- A struct is stored into a result. -/
theorem stores_pt (x : Nat) (y : Operand) (r : Nat) (T : TypeId) (L0 H0 L1 H1 l0 h0 l1 h1 : Int) (h : o.op = .store 37 (.tmp x) y) (hx : A x = .res r T [(L0, H0), (L1, H1)]) (hy : shOpd A y = .agg [(l0, h0), (l1, h1)]) (hin : (decide (L0 ≤ l0) && decide (h0 ≤ H0) && decide (L1 ≤ l1) && decide (h1 ≤ H1)) = true) : Stores Try.prog b rs A o := by
  simp only [Bool.and_eq_true, decide_eq_true_eq] at hin
  refine ⟨r, T, [(L0, H0), (L1, H1)], by simp [storesTo, h, hx], fun a w K Q hread hK => ?_⟩
  have gx := hread x (by unfold readsOf; rw [h]; simp [Op.operands])
  rw [hx] at gx
  obtain ⟨ex, hrs, hrb, cs, hblk, hsz⟩ := gx
  have gy := good_tmp hread (x := y) (by simp [h, Op.operands])
  rw [hy] at gy
  obtain ⟨vs, ey, x0, vs0, rfl, ⟨a0, b0⟩, x1, vs1, rfl, ⟨a1, b1⟩, rfl⟩ := gy
  have hcs : (∃ u, w.cell? ⟨r, 0, none⟩ = some u) ∧ (∃ u, w.cell? ⟨r, 1, none⟩ = some u) := by
    simp at hsz
    refine ⟨cell_some hblk (by omega), cell_some hblk (by omega)⟩
  obtain ⟨⟨u0, d0⟩, ⟨u1, d1⟩⟩ := hcs
  have f0 : w.frozen? ⟨r, 0, none⟩ = false := frozen_of_row w r 0 cs T hblk
  have f1 : w.frozen? ⟨r, 1, none⟩ = false := frozen_of_row w r 1 cs T hblk
  have hrun : (execOp a.eval o).run Try.prog w = .ok .skip ((w.setCell ⟨r, 0, none⟩ (.int .i64 x0)).setCell ⟨r, 1, none⟩ (.int .i64 x1)) := by
    have ex' : a.eval (.tmp x) = .pointer (some ⟨r, 0, none⟩) := ex
    generalize a.eval = ρ at ex' ey
    simp [execOp, h, ex', ey, Instr.storeAt, go_sem, d0, f0, d1, f1]
  unfold Oper.wp
  rw [hrun]
  show K (a.put o.dst undef) _
  obtain ⟨h1, h2, h3⟩ := set2 hblk (by simpa using hsz) x0 x1
  exact hK _ h1 h2 ⟨⟨x0, h3.1, by omega, by omega⟩, ⟨x1, h3.2, by omega, by omega⟩, trivial⟩ hrs hrb

end

def lk : List (Nat × Sh) → Nat → Sh
  | [], _ => .any
  | (k, s) :: l, t => if k = t then s else lk l t

def joinSh : List Sh → Option (Int × Int)
  | [] => none
  | [.int a b] => some (a, b)
  | .int a b :: l => match joinSh l with
    | some (x, y) => some (if a ≤ x then a else x, if y ≤ b then b else y)
    | none => none
  | _ :: _ => none

def aggSh : List Sh → Option (List (Int × Int))
  | [] => some []
  | .int a b :: l => match aggSh l with
    | some xs => some ((a, b) :: xs)
    | none => none
  | _ :: _ => none

/-- The shape that an operation yields. T: what the calls of other functions than pick yield. -/
def shOp (T : Nat → Sh) (A : Nat → Sh) : Op → Sh
  | .move x => shOpd A x
  | .assign x => shOpd A x
  | .binOp .add _ x y _ => match shOpd A x, shOpd A y with
    | .int a b, .int c d => .int (a + c) (b + d)
    | _, _ => .any
  | .binOp .sub _ x y _ => match shOpd A x, shOpd A y with
    | .int a b, .int c d => .int (a - d) (b - c)
    | _, _ => .any
  | .binOp .mul _ x y _ => match shOpd A x, shOpd A y with
    | .int a b, .int c d => if c = d then .int (a * c) (b * c) else .int (a * c) (a * d)
    | _, _ => .any
  | .binOp .quo _ x y _ => match shOpd A x, shOpd A y with
    | .int _ b, .int c _ => .int 0 (b / c)
    | _, _ => .any
  | .unOp .neg _ x => match shOpd A x with
    | .int a b => .int (-b) (-a)
    | _ => .any
  | .buildSlice _ n ps => match joinSh (ps.toList.map fun p => shOpd A p.2) with
    | some (x, y) => .sl n x y
    | none => .any
  | .build _ ps => match aggSh (ps.toList.map fun p => shOpd A p.2) with
    | some l => .agg l
    | none => .any
  | .fieldAddr _ x i => match shOpd A x with
    | .box l => match l[i]? with
      | some (lo, hi) => .ptr lo hi
      | none => .any
    | _ => .any
  | .indexAddr _ x _ => match shOpd A x with
    | .sl _ lo hi => .ptr lo hi
    | _ => .any
  | .load _ x => match shOpd A x with
    | .ptr lo hi => .int lo hi
    | .box l => .agg l
    | _ => .any
  | .call k => match k.callee, k.args with
    | .builtin _, #[x, y] => match shOpd A x, shOpd A y with
      | .int a b, .int c d => .int (if a ≤ c then c else a) (if b ≤ d then d else b)
      | _, _ => .any
    | .value (.func f), #[_, .const (.int .i64 m)] => match T f with
      | .any => .int 0 (m - 1)
      | s => s
    | .value (.func f), _ => T f
    | _, _ => .any
  | _ => .any

def shOf (T : Nat → Sh) : List (Nat × Sh) → List Oper → List (Nat × Sh)
  | l, [] => l
  | l, o :: os => shOf T (match o.dst with
    | some d => (d, shOp T (lk l) o.op) :: l
    | none => l) os

theorem shOf_pre {T : Nat → Sh} {t : Nat} : ∀ (os : List Oper) (l : List (Nat × Sh)), (∀ o ∈ os, o.dst ≠ some t) → lk (shOf T l os) t = lk l t
  | [], _, _ => rfl
  | o :: os, l, h => by
    unfold shOf
    rw [shOf_pre os _ (fun x hx => h x (List.mem_cons_of_mem _ hx))]
    have h0 := h o List.mem_cons_self
    split
    · rename_i d hd
      have : d ≠ t := fun e => h0 (by rw [hd, e])
      simp [lk, this]
    · rfl

theorem good_lk {b : Nat} {rs : List Nat} {w : World} {xs : Array Value} : ∀ (pre : List (Nat × Sh)) (t : Nat), (∀ x ∈ pre, Good b rs w x.2 (xs.getD x.1 undef)) → Good b rs w (lk pre t) (xs.getD t undef)
  | [], _, _ => trivial
  | (k, s) :: l, t, h => by
    unfold lk
    split
    · rename_i e; subst e; exact h _ List.mem_cons_self
    · exact good_lk l t (fun x hx => h x (List.mem_cons_of_mem _ hx))

/-- Each operation of the list takes good values to good ones. -/
def StepOf (P : Program) (b : Nat) (rs : List Nat) (c : Option Addr × Nat × Nat) (cost : Int) (A : Nat → Sh) (o : Oper) : Prop :=
  match o.dst with
  | some _ => Steps P b rs c cost A o
  | none => Stores P b rs A o
def AllSteps (P : Program) (b : Nat) (rs : List Nat) (c : Option Addr × Nat × Nat) (cost : Int) (A : Nat → Sh) : List Oper → Prop
  | [] => True
  | o :: l => StepOf P b rs c cost A o ∧ AllSteps P b rs c cost A l
theorem allSteps_mem {P : Program} {b : Nat} {rs : List Nat} {c : Option Addr × Nat × Nat} {cost : Int} {A : Nat → Sh} : ∀ (l : List Oper), AllSteps P b rs c cost A l → ∀ o ∈ l, StepOf P b rs c cost A o
  | [], _, _, h => by cases h
  | x :: l, h, o, ho => by
    rcases List.mem_cons.1 ho with rfl | h1
    · exact h.1
    · exact allSteps_mem l h.2 o h1
theorem allSteps_cons {P : Program} {b : Nat} {rs : List Nat} {c : Option Addr × Nat × Nat} {cost : Int} {A : Nat → Sh} {o : Oper} {l : List Oper} (h1 : StepOf P b rs c cost A o) (h2 : AllSteps P b rs c cost A l) : AllSteps P b rs c cost A (o :: l) := ⟨h1, h2⟩

/-- The stores of a region. -/
def storesOf (A : Nat → Sh) (l : List Oper) : List (Nat × TypeId × List (Int × Int)) := l.filterMap (storesTo A)
theorem sep_of {A : Nat → Sh} {l : List Oper} (h : (storesOf A l).Pairwise fun x y => x.1 ≠ y.1) : l.Pairwise fun o o' => ∀ x y, storesTo A o = some x → storesTo A o' = some y → x.1 ≠ y.1 := by
  unfold storesOf at h
  rw [List.pairwise_filterMap] at h
  exact h.imp fun hh x y hx hy => hh x hx y hy

theorem region_shapes {P : Program} {md : Region.Mode} {ops : Array Oper} {Q : Exit → Act → World → Prop} (T : Nat → Sh) (pre : List (Nat × Sh)) (b : Nat) (rs : List Nat) (a : Option Addr) (n c : Nat) (cost : Int) (p : Int)
    (a0 : Act) (w0 : World) (hr : Rd w0 b a n c p) (hbr : b ∉ rs) (hrl : ∀ r ∈ rs, r < w0.heap.size) (hoff : BytesOff rs a n) (hp : 0 ≤ p) (hc : 0 ≤ cost) (hfit : p + cost * ops.size ≤ 900000) (hwell : wellDrawn md ops = true)
    (hdst : (ops.toList.all fun o => match o.dst with | some d => decide (d < a0.tmps.size) && (match o.op with | .store .. => false | _ => true) | none => true) = true)
    (hpre : ∀ x ∈ pre, Good b rs w0 x.2 (a0.tmps.getD x.1 undef))
    (hsteps : AllSteps P b rs (a, n, c) cost (lk (shOf T pre ops.toList)) ops.toList)
    (hsep : (storesOf (lk (shOf T pre ops.toList)) ops.toList).Pairwise fun x y => x.1 ≠ y.1)
    (hQ : ∀ a1 q w, p ≤ q → q ≤ p + cost * ops.size → a1.defers = a0.defers → a1.tmps.size = a0.tmps.size → Near rs (w0.setCell ⟨b, 1, none⟩ (.int .i64 q)) w → Rd w b a n c q →
      (∀ t, Good b rs w (lk (shOf T pre ops.toList) t) (a1.tmps.getD t undef)) → (∀ x ∈ storesOf (lk (shOf T pre ops.toList)) ops.toList, CellsIn w x.1 0 x.2.2 ∧ ResHas w x.1 x.2.1 x.2.2.length) → Q .normal a1 w) :
    wpAny P md ops Q ops.size (Array.replicate ops.size false) a0 w0 := by
  have hmem : ∀ (j : Nat) (o : Oper), ops[j]? = some o → o ∈ ops.toList := fun j o hj => List.mem_of_getElem? (by simpa using hj)
  have hA : ∀ t, (∀ (j : Nat) (o : Oper), ops[j]? = some o → o.dst ≠ some t) → lk (shOf T pre ops.toList) t = lk pre t := by
    intro t ht
    refine shOf_pre _ _ fun o ho => ?_
    obtain ⟨j, hj⟩ := List.mem_iff_getElem?.1 ho
    exact ht j o (by simpa using hj)
  have hpre' : ∀ t, (∀ (j : Nat) (o : Oper), ops[j]? = some o → o.dst ≠ some t) → Good b rs w0 (lk (shOf T pre ops.toList) t) (a0.tmps.getD t undef) := by
    intro t ht
    rw [hA t ht]
    exact good_lk pre t hpre
  refine region_drawn b rs (a, n, c) cost (lk (shOf T pre ops.toList)) (fun i o ho => ?_) hwell (sep_of hsep) a0 w0 p hr hbr hrl hoff hp hc hfit hpre' ?_ ?_
  · have h1 := allSteps_mem _ hsteps o (hmem i o ho)
    have h2 := List.all_eq_true.1 hdst o (hmem i o ho)
    unfold StepOf at h1
    split at h1
    · rename_i d hd
      rw [hd] at h2
      simp only [Bool.and_eq_true, decide_eq_true_eq] at h2
      refine .inl ⟨⟨d, hd⟩, h1, ?_⟩
      unfold storesTo
      have h3 := h2.2
      split
      · rename_i hop; rw [hop] at h3; cases h3
      · rfl
    · rename_i hd
      exact .inr ⟨hd, h1⟩
  · intro j o d hj hd
    have := List.all_eq_true.1 hdst o (hmem j o hj)
    rw [hd] at this
    simp only [Bool.and_eq_true, decide_eq_true_eq] at this
    exact this.1
  · intro a1 q w h1 h2 h3 h4 h5 h6 h7 h8 h9 h10
    refine hQ a1 q w h1 h2 h3 h4 h5 h6 (fun t => ?_) (fun x hx => ?_)
    · by_cases hx : ∀ (j : Nat) (o : Oper), ops[j]? = some o → o.dst ≠ some t
      · rw [h8 t hx]
        exact (hpre' t hx).kept h7
      · have : ∃ (j : Nat) (o : Oper), ops[j]? = some o ∧ o.dst = some t := by
          refine Classical.byContradiction fun hn => hx fun j o hj hd => hn ⟨j, o, hj, hd⟩
        obtain ⟨j, o, hj, hd⟩ := this
        exact h9 j o t hj hd
    · unfold storesOf at hx
      rw [List.mem_filterMap] at hx
      obtain ⟨o, ho, hst⟩ := hx
      obtain ⟨j, hj⟩ := List.mem_iff_getElem?.1 ho
      exact h10 j o x.1 x.2.1 x.2.2 (by simpa using hj) hst

theorem results_t1 {fn : Func} {t0 : Tmp} (h : fn.results = #[.tmp t0]) (tmps : Array Value) (P : Program) (w : World) :
    (results fn tmps).run P w = .ok (tmps.getD t0 undef) w := by simp [results, h]
theorem results_t2 {fn : Func} {t0 t1 : Tmp} (h : fn.results = #[.tmp t0, .tmp t1]) (tmps : Array Value) (P : Program) (w : World) :
    (results fn tmps).run P w = .ok (.tuple #[tmps.getD t0 undef, tmps.getD t1 undef]) w := by simp [results, h]
theorem results_t3 {fn : Func} {t0 t1 t2 : Tmp} (h : fn.results = #[.tmp t0, .tmp t1, .tmp t2]) (tmps : Array Value) (P : Program) (w : World) :
    (results fn tmps).run P w = .ok (.tuple #[tmps.getD t0 undef, tmps.getD t1 undef, tmps.getD t2 undef]) w := by simp [results, h]
theorem results_t4 {fn : Func} {t0 t1 t2 t3 : Tmp} (h : fn.results = #[.tmp t0, .tmp t1, .tmp t2, .tmp t3]) (tmps : Array Value) (P : Program) (w : World) :
    (results fn tmps).run P w = .ok (.tuple #[tmps.getD t0 undef, tmps.getD t1 undef, tmps.getD t2 undef, tmps.getD t3 undef]) w := by simp [results, h]
theorem results_t5 {fn : Func} {t0 t1 t2 t3 t4 : Tmp} (h : fn.results = #[.tmp t0, .tmp t1, .tmp t2, .tmp t3, .tmp t4]) (tmps : Array Value) (P : Program) (w : World) :
    (results fn tmps).run P w = .ok (.tuple #[tmps.getD t0 undef, tmps.getD t1 undef, tmps.getD t2 undef, tmps.getD t3 undef, tmps.getD t4 undef]) w := by simp [results, h]
theorem results_t6 {fn : Func} {t0 t1 t2 t3 t4 t5 : Tmp} (h : fn.results = #[.tmp t0, .tmp t1, .tmp t2, .tmp t3, .tmp t4, .tmp t5]) (tmps : Array Value) (P : Program) (w : World) :
    (results fn tmps).run P w = .ok (.tuple #[tmps.getD t0 undef, tmps.getD t1 undef, tmps.getD t2 undef, tmps.getD t3 undef, tmps.getD t4 undef, tmps.getD t5 undef]) w := by simp [results, h]

end Go.Proofs.Ytnflmbmhncndfaa
