/-
  The operations that a drawn region of the seat's draws holds, by the shapes of their values. No condition beyond those that each theorem states.
-/
import Derived.Test.YtnflmbmhncndfaaReg
namespace Go.Proofs.Ytnflmbmhncndfaa
open Go.RowKit

def shOpd (A : Nat → Sh) : Operand → Sh
  | .tmp t => A t
  | .const (.int .i64 x) => .int x x
  | _ => .any

theorem good_tmp {b : Nat} {rs : List Nat} {w : World} {A : Nat → Sh} {o : Oper} {a : Act} (h : ∀ t ∈ readsOf o, Good b rs w (A t) (a.tmps.getD t undef)) {x : Operand} (hx : x ∈ o.op.operands.toList) : Good b rs w (shOpd A x) (a.eval x) := by
  cases x with
  | tmp t => exact h t (by unfold readsOf; rw [List.mem_filterMap]; exact ⟨.tmp t, hx, rfl⟩)
  | const v =>
    unfold shOpd
    split
    · rename_i t heq; cases heq
    · rename_i x heq; cases heq; exact ⟨x, rfl, Int.le_refl _, Int.le_refl _⟩
    · trivial
  | global g => trivial
  | func f => trivial

theorem off_new {w : World} {b : Nat} {rs : List Nat} {a : Option Addr} {n c : Nat} {q : Int} (hr : Rd w b a n c q) (hrs : ∀ r ∈ rs, r < w.heap.size) : Off b rs w.heap.size :=
  ⟨Nat.ne_of_gt hr.lt, fun h => Nat.lt_irrefl _ (hrs _ h)⟩

/-- The world as it was. -/
theorem same_world {w : World} {b : Nat} {a : Option Addr} {n c : Nat} {q : Int} (hr : Rd w b a n c q) : plus (w.setCell ⟨b, 1, none⟩ (.int .i64 q)) #[] w.drawn = w := by
  rw [setCell_self hr.at_]; exact plus_id

section
variable {b : Nat} {rs : List Nat} {c : Option Addr × Nat × Nat} {cost : Int} {A : Nat → Sh} {o : Oper}

/-- An operation that yields a good value and leaves the world. -/
theorem steps_quiet (hc : 0 ≤ cost) (r : Sh) (hA : ∀ s, o.dst = some s → A s = r)
    (h : ∀ (a : Act) (w : World), (∀ x ∈ o.op.operands.toList, Good b rs w (shOpd A x) (a.eval x)) → ∃ v, (execOp a.eval o).run Try.prog w = .ok (.value v) w ∧ Good b rs w r v) : Steps Try.prog b rs c cost A o := by
  intro a w q K Q hread hr hrs hq0 hq1 hK
  obtain ⟨v, h1, h2⟩ := h a w (fun x hx => good_tmp hread hx)
  unfold Oper.wp
  rw [h1]
  have := hK v q #[] w.drawn (Int.le_refl _) (by omega) (fun s hs => by rw [hA s hs, same_world hr]; exact h2)
  rw [same_world hr] at this
  exact this

theorem steps_move (hc : 0 ≤ cost) (x : Operand) (h : o.op = .move x ∨ o.op = .assign x) (hA : ∀ s, o.dst = some s → A s = shOpd A x) : Steps Try.prog b rs c cost A o := by
  refine steps_quiet hc _ hA fun a w hg => ⟨a.eval x, ?_, ?_⟩
  · generalize a.eval = ρ
    rcases h with h | h <;> simp [execOp, h, go_sem]
  · refine hg x ?_
    rcases h with h | h <;> simp [h, Op.operands]

theorem steps_add (hc : 0 ≤ cost) (x y : Operand) (l1 h1 l2 h2 : Int) (h : o.op = .binOp .add 3 x y 3) (hx : shOpd A x = .int l1 h1) (hy : shOpd A y = .int l2 h2) (hin : (decide (-9223372036854775808 ≤ l1 + l2) && decide (h1 + h2 ≤ 9223372036854775807)) = true) (hA : ∀ s, o.dst = some s → A s = .int (l1 + l2) (h1 + h2)) : Steps Try.prog b rs c cost A o := by
  simp only [Bool.and_eq_true, decide_eq_true_eq] at hin
  refine steps_quiet hc _ hA fun a w hg => ?_
  have gx := hg x (by simp [h, Op.operands])
  have gy := hg y (by simp [h, Op.operands])
  rw [hx] at gx; rw [hy] at gy
  obtain ⟨u, ex, u1, u2⟩ := gx
  obtain ⟨v, ey, v1, v2⟩ := gy
  refine ⟨.int .i64 (u + v), ?_, u + v, rfl, by omega, by omega⟩
  have := IntWalk.i64_in (u + v) (by omega)
  generalize a.eval = ρ at ex ey
  simp [execOp, h, ex, ey, eqGuard, binOp, Op.intArith, go_sem, this]

theorem steps_sub (hc : 0 ≤ cost) (x y : Operand) (l1 h1 l2 h2 : Int) (h : o.op = .binOp .sub 3 x y 3) (hx : shOpd A x = .int l1 h1) (hy : shOpd A y = .int l2 h2) (hin : (decide (-9223372036854775808 ≤ l1 - h2) && decide (h1 - l2 ≤ 9223372036854775807)) = true) (hA : ∀ s, o.dst = some s → A s = .int (l1 - h2) (h1 - l2)) : Steps Try.prog b rs c cost A o := by
  simp only [Bool.and_eq_true, decide_eq_true_eq] at hin
  refine steps_quiet hc _ hA fun a w hg => ?_
  have gx := hg x (by simp [h, Op.operands])
  have gy := hg y (by simp [h, Op.operands])
  rw [hx] at gx; rw [hy] at gy
  obtain ⟨u, ex, u1, u2⟩ := gx
  obtain ⟨v, ey, v1, v2⟩ := gy
  refine ⟨.int .i64 (u - v), ?_, u - v, rfl, by omega, by omega⟩
  have := IntWalk.i64_in (u - v) (by omega)
  generalize a.eval = ρ at ex ey
  simp [execOp, h, ex, ey, eqGuard, binOp, Op.intArith, go_sem, this]

/-- A product by a constant k ≥ 0. -/
theorem steps_mulK (hc : 0 ≤ cost) (x y : Operand) (l1 h1 k : Int) (h : o.op = .binOp .mul 3 x y 3) (hx : shOpd A x = .int l1 h1) (hy : shOpd A y = .int k k) (hin : (decide (0 ≤ k) && decide (-9223372036854775808 ≤ l1 * k) && decide (h1 * k ≤ 9223372036854775807)) = true) (hA : ∀ s, o.dst = some s → A s = .int (l1 * k) (h1 * k)) : Steps Try.prog b rs c cost A o := by
  simp only [Bool.and_eq_true, decide_eq_true_eq] at hin
  obtain ⟨⟨k0, i1⟩, i2⟩ := hin
  refine steps_quiet hc _ hA fun a w hg => ?_
  have gx := hg x (by simp [h, Op.operands])
  have gy := hg y (by simp [h, Op.operands])
  rw [hx] at gx; rw [hy] at gy
  obtain ⟨u, ex, u1, u2⟩ := gx
  obtain ⟨v, ey, v1, v2⟩ := gy
  have hv : v = k := by omega
  subst hv
  have m1 := Int.mul_le_mul_of_nonneg_right u1 k0
  have m2 := Int.mul_le_mul_of_nonneg_right u2 k0
  refine ⟨.int .i64 (u * v), ?_, u * v, rfl, m1, m2⟩
  have := IntWalk.i64_in (u * v) (by omega)
  generalize a.eval = ρ at ex ey
  simp [execOp, h, ex, ey, eqGuard, binOp, Op.intArith, go_sem, this]

/-- A constant k ≥ 0 times. -/
theorem steps_mulL (hc : 0 ≤ cost) (x y : Operand) (l1 h1 k : Int) (h : o.op = .binOp .mul 3 x y 3) (hx : shOpd A x = .int k k) (hy : shOpd A y = .int l1 h1) (hin : (decide (0 ≤ k) && decide (-9223372036854775808 ≤ k * l1) && decide (k * h1 ≤ 9223372036854775807)) = true) (hA : ∀ s, o.dst = some s → A s = .int (k * l1) (k * h1)) : Steps Try.prog b rs c cost A o := by
  simp only [Bool.and_eq_true, decide_eq_true_eq] at hin
  obtain ⟨⟨k0, i1⟩, i2⟩ := hin
  refine steps_quiet hc _ hA fun a w hg => ?_
  have gx := hg x (by simp [h, Op.operands])
  have gy := hg y (by simp [h, Op.operands])
  rw [hx] at gx; rw [hy] at gy
  obtain ⟨v, ex, v1, v2⟩ := gx
  obtain ⟨u, ey, u1, u2⟩ := gy
  have hv : v = k := by omega
  subst hv
  have m1 := Int.mul_le_mul_of_nonneg_left u1 k0
  have m2 := Int.mul_le_mul_of_nonneg_left u2 k0
  refine ⟨.int .i64 (v * u), ?_, v * u, rfl, m1, m2⟩
  have := IntWalk.i64_in (v * u) (by omega)
  generalize a.eval = ρ at ex ey
  simp [execOp, h, ex, ey, eqGuard, binOp, Op.intArith, go_sem, this]

theorem steps_neg (hc : 0 ≤ cost) (x : Operand) (l1 h1 : Int) (h : o.op = .unOp .neg 3 x) (hx : shOpd A x = .int l1 h1) (hin : (decide (-9223372036854775808 ≤ -h1) && decide (-l1 ≤ 9223372036854775807)) = true) (hA : ∀ s, o.dst = some s → A s = .int (-h1) (-l1)) : Steps Try.prog b rs c cost A o := by
  simp only [Bool.and_eq_true, decide_eq_true_eq] at hin
  refine steps_quiet hc _ hA fun a w hg => ?_
  have gx := hg x (by simp [h, Op.operands])
  rw [hx] at gx
  obtain ⟨u, ex, u1, u2⟩ := gx
  refine ⟨.int .i64 (-u), ?_, -u, rfl, by omega, by omega⟩
  have := IntWalk.i64_in (-u) (by omega)
  generalize a.eval = ρ at ex
  simp [execOp, h, ex, Op.unary, go_sem, this]

theorem steps_index (hc : 0 ≤ cost) (x y : Operand) (n : Nat) (l1 h1 l2 h2 : Int) (h : o.op = .indexAddr 62 x y) (hx : shOpd A x = .sl n l1 h1) (hy : shOpd A y = .int l2 h2) (hin : (decide (0 ≤ l2) && decide (h2 < n)) = true) (hA : ∀ s, o.dst = some s → A s = .ptr l1 h1) : Steps Try.prog b rs c cost A o := by
  simp only [Bool.and_eq_true, decide_eq_true_eq] at hin
  refine steps_quiet hc _ hA fun a w hg => ?_
  have gx := hg x (by simp [h, Op.operands])
  have gy := hg y (by simp [h, Op.operands])
  rw [hx] at gx; rw [hy] at gy
  obtain ⟨k, ex, hk, hcell⟩ := gx
  obtain ⟨v, ey, v1, v2⟩ := gy
  obtain ⟨m, rfl⟩ := Int.eq_ofNat_of_zero_le (show 0 ≤ v by omega)
  refine ⟨.pointer (some ⟨k, m, none⟩), ?_, k, m, rfl, hk, hcell m (by omega)⟩
  have hm' : (m < n) = True := by simp; omega
  generalize a.eval = ρ at ex ey
  simp [execOp, h, ex, ey, Instr.indexAt, go_sem, hm', addr_add]

theorem steps_load (hc : 0 ≤ cost) (x : Operand) (l1 h1 : Int) (h : o.op = .load 3 x) (hx : shOpd A x = .ptr l1 h1) (hA : ∀ s, o.dst = some s → A s = .int l1 h1) : Steps Try.prog b rs c cost A o := by
  refine steps_quiet hc _ hA fun a w hg => ?_
  have gx := hg x (by simp [h, Op.operands])
  rw [hx] at gx
  obtain ⟨k, i, ex, hk, u, hcell, u1, u2⟩ := gx
  refine ⟨.int .i64 u, ?_, u, rfl, u1, u2⟩
  generalize a.eval = ρ at ex
  simp [execOp, h, ex, Instr.loadAt, go_sem, hcell]

end
end Go.Proofs.Ytnflmbmhncndfaa
