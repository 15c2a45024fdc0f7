/-
  A drawn region of the seat's draws, by the shapes of its values: the shapes are computed from the region's text. No condition beyond those that each theorem states.
-/
import Derived.Test.YtjklepabliehdaaShape2
namespace Go.Proofs.Ytjklepabliehdaa
open Go.RowKit
section
variable {b : Nat} {c : Option Addr × Nat × Nat} {cost : Int} {A : Nat → Sh} {o : Oper}

/-- A quotient of a number ≥ 0 by a constant k ≥ 1. -/
theorem steps_quoK (hc : 0 ≤ cost) (x y : Operand) (l1 h1 k : Int) (h : o.op = .binOp .quo 3 x y 3) (hx : shOpd A x = .int l1 h1) (hy : shOpd A y = .int k k) (hin : (decide (1 ≤ k) && decide (0 ≤ l1) && decide (h1 ≤ 1000000) && decide (k ≤ 1000000)) = true) (hA : ∀ s, o.dst = some s → A s = .int 0 (h1 / k)) : Steps Try.prog b c cost A o := by
  simp only [Bool.and_eq_true, decide_eq_true_eq] at hin
  obtain ⟨⟨⟨k0, i1⟩, i2⟩, i3⟩ := hin
  refine steps_quiet hc _ hA fun a w hg => ?_
  have gx := hg x (by simp [h, Op.operands])
  have gy := hg y (by simp [h, Op.operands])
  rw [hx] at gx; rw [hy] at gy
  obtain ⟨u, ex, u1, u2⟩ := gx
  obtain ⟨v, ey, v1, v2⟩ := gy
  have hv : v = k := by omega
  subst hv
  have m1 : u / v ≤ h1 / v := Int.ediv_le_ediv (by omega) u2
  have m0 : 0 ≤ u / v := Int.ediv_nonneg (by omega) (by omega)
  refine ⟨.int .i64 (u / v), ?_, u / v, rfl, m0, m1⟩
  have mle : u / v ≤ u := Int.ediv_le_self _ (by omega)
  have e := IntWalk.i64_in (u / v) (by omega)
  have et : u.tdiv v = u / v := Int.tdiv_eq_ediv_of_nonneg (by omega)
  have hz : v ≠ 0 := by omega
  generalize a.eval = ρ at ex ey
  simp [execOp, h, ex, ey, eqGuard, binOp, Op.intDiv, go_sem, e, et, hz]

end

def lk : List (Nat × Sh) → Nat → Sh
  | [], _ => .any
  | (k, s) :: l, t => if k = t then s else lk l t

def joinSh : List Sh → Option (Int × Int)
  | [] => none
  | [.int a b] => some (a, b)
  | .int a b :: l => match joinSh l with
    | some (x, y) => some (if a ≤ x then a else x, if y ≤ b then b else y)
    | none => none
  | _ :: _ => none

/-- The shape that an operation yields. -/
def shOp (A : Nat → Sh) : Op → Sh
  | .move x => shOpd A x
  | .assign x => shOpd A x
  | .binOp .add _ x y _ => match shOpd A x, shOpd A y with
    | .int a b, .int c d => .int (a + c) (b + d)
    | _, _ => .any
  | .binOp .sub _ x y _ => match shOpd A x, shOpd A y with
    | .int a b, .int c d => .int (a - d) (b - c)
    | _, _ => .any
  | .binOp .mul _ x y _ => match shOpd A x, shOpd A y with
    | .int a b, .int c d => if c = d then .int (a * c) (b * c) else .int (a * c) (a * d)
    | _, _ => .any
  | .binOp .quo _ x y _ => match shOpd A x, shOpd A y with
    | .int _ b, .int c _ => .int 0 (b / c)
    | _, _ => .any
  | .unOp .neg _ x => match shOpd A x with
    | .int a b => .int (-b) (-a)
    | _ => .any
  | .buildSlice _ n ps => match joinSh (ps.toList.map fun p => shOpd A p.2) with
    | some (x, y) => .sl n x y
    | none => .any
  | .indexAddr _ x _ => match shOpd A x with
    | .sl _ lo hi => .ptr lo hi
    | _ => .any
  | .load _ x => match shOpd A x with
    | .ptr lo hi => .int lo hi
    | _ => .any
  | .call k => match k.args with
    | #[_, .const (.int .i64 m)] => .int 0 (m - 1)
    | _ => .any
  | _ => .any

def shOf : List (Nat × Sh) → List Oper → List (Nat × Sh)
  | l, [] => l
  | l, o :: os => shOf (match o.dst with
    | some d => (d, shOp (lk l) o.op) :: l
    | none => l) os

theorem shOf_pre {t : Nat} : ∀ (os : List Oper) (l : List (Nat × Sh)), (∀ o ∈ os, o.dst ≠ some t) → lk (shOf l os) t = lk l t
  | [], _, _ => rfl
  | o :: os, l, h => by
    unfold shOf
    rw [shOf_pre os _ (fun x hx => h x (List.mem_cons_of_mem _ hx))]
    have h0 := h o List.mem_cons_self
    split
    · rename_i d hd
      have : d ≠ t := fun e => h0 (by rw [hd, e])
      simp [lk, this]
    · rfl

theorem good_lk {b : Nat} {w : World} {xs : Array Value} : ∀ (pre : List (Nat × Sh)) (t : Nat), (∀ x ∈ pre, Good b w x.2 (xs.getD x.1 undef)) → Good b w (lk pre t) (xs.getD t undef)
  | [], _, _ => trivial
  | (k, s) :: l, t, h => by
    unfold lk
    split
    · rename_i e; subst e; exact h _ List.mem_cons_self
    · exact good_lk l t (fun x hx => h x (List.mem_cons_of_mem _ hx))

/-- Each operation of the list takes good values to good ones. -/
def AllSteps (P : Program) (b : Nat) (c : Option Addr × Nat × Nat) (cost : Int) (A : Nat → Sh) : List Oper → Prop
  | [] => True
  | o :: l => Steps P b c cost A o ∧ AllSteps P b c cost A l
theorem allSteps_mem {P : Program} {b : Nat} {c : Option Addr × Nat × Nat} {cost : Int} {A : Nat → Sh} : ∀ (l : List Oper), AllSteps P b c cost A l → ∀ o ∈ l, Steps P b c cost A o
  | [], _, _, h => by cases h
  | x :: l, h, o, ho => by
    rcases List.mem_cons.1 ho with rfl | h1
    · exact h.1
    · exact allSteps_mem l h.2 o h1
theorem allSteps_cons {P : Program} {b : Nat} {c : Option Addr × Nat × Nat} {cost : Int} {A : Nat → Sh} {o : Oper} {l : List Oper} (h1 : Steps P b c cost A o) (h2 : AllSteps P b c cost A l) : AllSteps P b c cost A (o :: l) := ⟨h1, h2⟩

theorem region_shapes {P : Program} {md : Region.Mode} {ops : Array Oper} {Q : Exit → Act → World → Prop} (pre : List (Nat × Sh)) (b : Nat) (a : Option Addr) (n c : Nat) (cost : Int) (p : Int)
    (a0 : Act) (w0 : World) (hr : Rd w0 b a n c p) (hp : 0 ≤ p) (hc : 0 ≤ cost) (hfit : p + cost * ops.size ≤ 900000) (hwell : wellDrawn md ops = true)
    (hdst : (ops.toList.all fun o => match o.dst with | some d => decide (d < a0.tmps.size) | none => true) = true)
    (hpre : ∀ x ∈ pre, Good b w0 x.2 (a0.tmps.getD x.1 undef))
    (hsteps : AllSteps P b (a, n, c) cost (lk (shOf pre ops.toList)) ops.toList)
    (hQ : ∀ a1 q os d, p ≤ q → q ≤ p + cost * ops.size → a1.defers = a0.defers → a1.tmps.size = a0.tmps.size →
      (∀ t, Good b (plus (w0.setCell ⟨b, 1, none⟩ (.int .i64 q)) os d) (lk (shOf pre ops.toList) t) (a1.tmps.getD t undef)) → Q .normal a1 (plus (w0.setCell ⟨b, 1, none⟩ (.int .i64 q)) os d)) :
    wpAny P md ops Q ops.size (Array.replicate ops.size false) a0 w0 := by
  have hmem : ∀ (j : Nat) (o : Oper), ops[j]? = some o → o ∈ ops.toList := fun j o hj => List.mem_of_getElem? (by simpa using hj)
  have hA : ∀ t, (∀ (j : Nat) (o : Oper), ops[j]? = some o → o.dst ≠ some t) → lk (shOf pre ops.toList) t = lk pre t := by
    intro t ht
    refine shOf_pre _ _ fun o ho => ?_
    obtain ⟨j, hj⟩ := List.mem_iff_getElem?.1 ho
    exact ht j o (by simpa using hj)
  have hpre' : ∀ t, (∀ (j : Nat) (o : Oper), ops[j]? = some o → o.dst ≠ some t) → Good b w0 (lk (shOf pre ops.toList) t) (a0.tmps.getD t undef) := by
    intro t ht
    rw [hA t ht]
    exact good_lk pre t hpre
  refine region_drawn b (a, n, c) cost (lk (shOf pre ops.toList)) (fun i o ho => allSteps_mem _ hsteps o (hmem i o ho)) hwell a0 w0 p hr hp hc hfit hpre' ?_ ?_
  · intro j o d hj hd
    have := List.all_eq_true.1 hdst o (hmem j o hj)
    rw [hd] at this
    simpa using this
  · intro a1 q os d h1 h2 h3 h4 h5 h6
    refine hQ a1 q os d h1 h2 h3 h4 fun t => ?_
    by_cases hx : ∀ (j : Nat) (o : Oper), ops[j]? = some o → o.dst ≠ some t
    · rw [h5 t hx]
      exact (hpre' t hx).kept (kept_set b w0 _ os d)
    · have : ∃ (j : Nat) (o : Oper), ops[j]? = some o ∧ o.dst = some t := by
        refine Classical.byContradiction fun hn => hx fun j o hj hd => hn ⟨j, o, hj, hd⟩
      obtain ⟨j, o, hj, hd⟩ := this
      exact h6 j o t hj hd

end Go.Proofs.Ytjklepabliehdaa
