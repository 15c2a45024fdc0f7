/-
  A drawn region of the seat's draws, by the shapes of its values: the shapes are computed from the region's text. No condition beyond those that each theorem states.
-/
import Derived.Test.YtjklepabliehdaaShape2
namespace Go.Proofs.Ytjklepabliehdaa
open Go.RowKit
section
variable {b : Nat} {c : Option Addr × Nat × Nat} {cost : Int} {A : Nat → Sh} {o : Oper}

/-- A quotient of a number ≥ 0 by a constant k ≥ 1. -/
theorem steps_quoK (hc : 0 ≤ cost) (x y : Operand) (l1 h1 k : Int) (h : o.op = .binOp .quo 3 x y 3) (hx : shOpd A x = .int l1 h1) (hy : shOpd A y = .int k k) (hin : (decide (1 ≤ k) && decide (0 ≤ l1) && decide (h1 ≤ 1000000) && decide (k ≤ 1000000)) = true) (hA : ∀ s, o.dst = some s → A s = .int 0 (h1 / k)) : Steps Try.prog b c cost A o := by
  simp only [Bool.and_eq_true, decide_eq_true_eq] at hin
  obtain ⟨⟨⟨k0, i1⟩, i2⟩, i3⟩ := hin
  refine steps_quiet hc _ hA fun a w hg => ?_
  have gx := hg x (by simp [h, Op.operands])
  have gy := hg y (by simp [h, Op.operands])
  rw [hx] at gx; rw [hy] at gy
  obtain ⟨u, ex, u1, u2⟩ := gx
  obtain ⟨v, ey, v1, v2⟩ := gy
  have hv : v = k := by omega
  subst hv
  have m1 : u / v ≤ h1 / v := Int.ediv_le_ediv (by omega) u2
  have m0 : 0 ≤ u / v := Int.ediv_nonneg (by omega) (by omega)
  refine ⟨.int .i64 (u / v), ?_, u / v, rfl, m0, m1⟩
  have mle : u / v ≤ u := Int.ediv_le_self _ (by omega)
  have e := IntWalk.i64_in (u / v) (by omega)
  have et : u.tdiv v = u / v := Int.tdiv_eq_ediv_of_nonneg (by omega)
  have hz : v ≠ 0 := by omega
  generalize a.eval = ρ at ex ey
  simp [execOp, h, ex, ey, eqGuard, binOp, Op.intDiv, go_sem, e, et, hz]

/-- The greater of two. -/
theorem steps_max (hc : 0 ≤ cost) (x y : Operand) (l1 h1 l2 h2 : Int) (h : o.op = .call { callee := .builtin .max, args := #[x, y], argTypes := #[3, 3] }) (ht : o.type = 3) (hx : shOpd A x = .int l1 h1) (hy : shOpd A y = .int l2 h2) (hA : ∀ s, o.dst = some s → A s = .int (if l1 ≤ l2 then l2 else l1) (if h1 ≤ h2 then h2 else h1)) : Steps Try.prog b c cost A o := by
  refine steps_quiet hc _ hA fun a w hg => ?_
  have gx := hg x (by simp [h, Op.operands, Call.operands])
  have gy := hg y (by simp [h, Op.operands, Call.operands])
  rw [hx] at gx; rw [hy] at gy
  obtain ⟨u, ex, u1, u2⟩ := gx
  obtain ⟨v, ey, v1, v2⟩ := gy
  refine ⟨.int .i64 (if v > u then v else u), ?_, _, rfl, ?_, ?_⟩
  · generalize a.eval = ρ at ex ey
    by_cases hlt : v > u
    · simp [execOp, h, ht, resolve, invoke, builtin, Builtin.max_, Builtin.max2, ex, ey, go_sem, hlt]
    · simp [execOp, h, ht, resolve, invoke, builtin, Builtin.max_, Builtin.max2, ex, ey, go_sem, hlt]
  · split <;> split <;> omega
  · split <;> split <;> omega

end

def lk : List (Nat × Sh) → Nat → Sh
  | [], _ => .any
  | (k, s) :: l, t => if k = t then s else lk l t

def joinSh : List Sh → Option (Int × Int)
  | [] => none
  | [.int a b] => some (a, b)
  | .int a b :: l => match joinSh l with
    | some (x, y) => some (if a ≤ x then a else x, if y ≤ b then b else y)
    | none => none
  | _ :: _ => none

/-- The shape that an operation yields. T: what the calls of other functions than pick yield. -/
def shOp (T : Nat → Sh) (A : Nat → Sh) : Op → Sh
  | .move x => shOpd A x
  | .assign x => shOpd A x
  | .binOp .add _ x y _ => match shOpd A x, shOpd A y with
    | .int a b, .int c d => .int (a + c) (b + d)
    | _, _ => .any
  | .binOp .sub _ x y _ => match shOpd A x, shOpd A y with
    | .int a b, .int c d => .int (a - d) (b - c)
    | _, _ => .any
  | .binOp .mul _ x y _ => match shOpd A x, shOpd A y with
    | .int a b, .int c d => if c = d then .int (a * c) (b * c) else .int (a * c) (a * d)
    | _, _ => .any
  | .binOp .quo _ x y _ => match shOpd A x, shOpd A y with
    | .int _ b, .int c _ => .int 0 (b / c)
    | _, _ => .any
  | .unOp .neg _ x => match shOpd A x with
    | .int a b => .int (-b) (-a)
    | _ => .any
  | .buildSlice _ n ps => match joinSh (ps.toList.map fun p => shOpd A p.2) with
    | some (x, y) => .sl n x y
    | none => .any
  | .indexAddr _ x _ => match shOpd A x with
    | .sl _ lo hi => .ptr lo hi
    | _ => .any
  | .load _ x => match shOpd A x with
    | .ptr lo hi => .int lo hi
    | _ => .any
  | .call k => match k.callee, k.args with
    | .builtin _, #[x, y] => match shOpd A x, shOpd A y with
      | .int a b, .int c d => .int (if a ≤ c then c else a) (if b ≤ d then d else b)
      | _, _ => .any
    | .value (.func f), #[_, .const (.int .i64 m)] => match T f with
      | .any => .int 0 (m - 1)
      | s => s
    | .value (.func f), _ => T f
    | _, _ => .any
  | _ => .any

def shOf (T : Nat → Sh) : List (Nat × Sh) → List Oper → List (Nat × Sh)
  | l, [] => l
  | l, o :: os => shOf T (match o.dst with
    | some d => (d, shOp T (lk l) o.op) :: l
    | none => l) os

theorem shOf_pre {T : Nat → Sh} {t : Nat} : ∀ (os : List Oper) (l : List (Nat × Sh)), (∀ o ∈ os, o.dst ≠ some t) → lk (shOf T l os) t = lk l t
  | [], _, _ => rfl
  | o :: os, l, h => by
    unfold shOf
    rw [shOf_pre os _ (fun x hx => h x (List.mem_cons_of_mem _ hx))]
    have h0 := h o List.mem_cons_self
    split
    · rename_i d hd
      have : d ≠ t := fun e => h0 (by rw [hd, e])
      simp [lk, this]
    · rfl

theorem good_lk {b : Nat} {w : World} {xs : Array Value} : ∀ (pre : List (Nat × Sh)) (t : Nat), (∀ x ∈ pre, Good b w x.2 (xs.getD x.1 undef)) → Good b w (lk pre t) (xs.getD t undef)
  | [], _, _ => trivial
  | (k, s) :: l, t, h => by
    unfold lk
    split
    · rename_i e; subst e; exact h _ List.mem_cons_self
    · exact good_lk l t (fun x hx => h x (List.mem_cons_of_mem _ hx))

/-- Each operation of the list takes good values to good ones. -/
def AllSteps (P : Program) (b : Nat) (c : Option Addr × Nat × Nat) (cost : Int) (A : Nat → Sh) : List Oper → Prop
  | [] => True
  | o :: l => Steps P b c cost A o ∧ AllSteps P b c cost A l
theorem allSteps_mem {P : Program} {b : Nat} {c : Option Addr × Nat × Nat} {cost : Int} {A : Nat → Sh} : ∀ (l : List Oper), AllSteps P b c cost A l → ∀ o ∈ l, Steps P b c cost A o
  | [], _, _, h => by cases h
  | x :: l, h, o, ho => by
    rcases List.mem_cons.1 ho with rfl | h1
    · exact h.1
    · exact allSteps_mem l h.2 o h1
theorem allSteps_cons {P : Program} {b : Nat} {c : Option Addr × Nat × Nat} {cost : Int} {A : Nat → Sh} {o : Oper} {l : List Oper} (h1 : Steps P b c cost A o) (h2 : AllSteps P b c cost A l) : AllSteps P b c cost A (o :: l) := ⟨h1, h2⟩

theorem region_shapes {P : Program} {md : Region.Mode} {ops : Array Oper} {Q : Exit → Act → World → Prop} (T : Nat → Sh) (pre : List (Nat × Sh)) (b : Nat) (a : Option Addr) (n c : Nat) (cost : Int) (p : Int)
    (a0 : Act) (w0 : World) (hr : Rd w0 b a n c p) (hp : 0 ≤ p) (hc : 0 ≤ cost) (hfit : p + cost * ops.size ≤ 900000) (hwell : wellDrawn md ops = true)
    (hdst : (ops.toList.all fun o => match o.dst with | some d => decide (d < a0.tmps.size) | none => true) = true)
    (hpre : ∀ x ∈ pre, Good b w0 x.2 (a0.tmps.getD x.1 undef))
    (hsteps : AllSteps P b (a, n, c) cost (lk (shOf T pre ops.toList)) ops.toList)
    (hQ : ∀ a1 q os d, p ≤ q → q ≤ p + cost * ops.size → a1.defers = a0.defers → a1.tmps.size = a0.tmps.size →
      (∀ t, Good b (plus (w0.setCell ⟨b, 1, none⟩ (.int .i64 q)) os d) (lk (shOf T pre ops.toList) t) (a1.tmps.getD t undef)) → Q .normal a1 (plus (w0.setCell ⟨b, 1, none⟩ (.int .i64 q)) os d)) :
    wpAny P md ops Q ops.size (Array.replicate ops.size false) a0 w0 := by
  have hmem : ∀ (j : Nat) (o : Oper), ops[j]? = some o → o ∈ ops.toList := fun j o hj => List.mem_of_getElem? (by simpa using hj)
  have hA : ∀ t, (∀ (j : Nat) (o : Oper), ops[j]? = some o → o.dst ≠ some t) → lk (shOf T pre ops.toList) t = lk pre t := by
    intro t ht
    refine shOf_pre _ _ fun o ho => ?_
    obtain ⟨j, hj⟩ := List.mem_iff_getElem?.1 ho
    exact ht j o (by simpa using hj)
  have hpre' : ∀ t, (∀ (j : Nat) (o : Oper), ops[j]? = some o → o.dst ≠ some t) → Good b w0 (lk (shOf T pre ops.toList) t) (a0.tmps.getD t undef) := by
    intro t ht
    rw [hA t ht]
    exact good_lk pre t hpre
  refine region_drawn b (a, n, c) cost (lk (shOf T pre ops.toList)) (fun i o ho => allSteps_mem _ hsteps o (hmem i o ho)) hwell a0 w0 p hr hp hc hfit hpre' ?_ ?_
  · intro j o d hj hd
    have := List.all_eq_true.1 hdst o (hmem j o hj)
    rw [hd] at this
    simpa using this
  · intro a1 q os d h1 h2 h3 h4 h5 h6
    refine hQ a1 q os d h1 h2 h3 h4 fun t => ?_
    by_cases hx : ∀ (j : Nat) (o : Oper), ops[j]? = some o → o.dst ≠ some t
    · rw [h5 t hx]
      exact (hpre' t hx).kept (kept_set b w0 _ os d)
    · have : ∃ (j : Nat) (o : Oper), ops[j]? = some o ∧ o.dst = some t := by
        refine Classical.byContradiction fun hn => hx fun j o hj hd => hn ⟨j, o, hj, hd⟩
      obtain ⟨j, o, hj, hd⟩ := this
      exact h6 j o t hj hd

theorem results_t1 {fn : Func} {t0 : Tmp} (h : fn.results = #[.tmp t0]) (tmps : Array Value) (P : Program) (w : World) :
    (results fn tmps).run P w = .ok (tmps.getD t0 undef) w := by simp [results, h]
theorem results_t2 {fn : Func} {t0 t1 : Tmp} (h : fn.results = #[.tmp t0, .tmp t1]) (tmps : Array Value) (P : Program) (w : World) :
    (results fn tmps).run P w = .ok (.tuple #[tmps.getD t0 undef, tmps.getD t1 undef]) w := by simp [results, h]
theorem results_t3 {fn : Func} {t0 t1 t2 : Tmp} (h : fn.results = #[.tmp t0, .tmp t1, .tmp t2]) (tmps : Array Value) (P : Program) (w : World) :
    (results fn tmps).run P w = .ok (.tuple #[tmps.getD t0 undef, tmps.getD t1 undef, tmps.getD t2 undef]) w := by simp [results, h]
theorem results_t4 {fn : Func} {t0 t1 t2 t3 : Tmp} (h : fn.results = #[.tmp t0, .tmp t1, .tmp t2, .tmp t3]) (tmps : Array Value) (P : Program) (w : World) :
    (results fn tmps).run P w = .ok (.tuple #[tmps.getD t0 undef, tmps.getD t1 undef, tmps.getD t2 undef, tmps.getD t3 undef]) w := by simp [results, h]
theorem results_t5 {fn : Func} {t0 t1 t2 t3 t4 : Tmp} (h : fn.results = #[.tmp t0, .tmp t1, .tmp t2, .tmp t3, .tmp t4]) (tmps : Array Value) (P : Program) (w : World) :
    (results fn tmps).run P w = .ok (.tuple #[tmps.getD t0 undef, tmps.getD t1 undef, tmps.getD t2 undef, tmps.getD t3 undef, tmps.getD t4 undef]) w := by simp [results, h]
theorem results_t6 {fn : Func} {t0 t1 t2 t3 t4 t5 : Tmp} (h : fn.results = #[.tmp t0, .tmp t1, .tmp t2, .tmp t3, .tmp t4, .tmp t5]) (tmps : Array Value) (P : Program) (w : World) :
    (results fn tmps).run P w = .ok (.tuple #[tmps.getD t0 undef, tmps.getD t1 undef, tmps.getD t2 undef, tmps.getD t3 undef, tmps.getD t4 undef, tmps.getD t5 undef]) w := by simp [results, h]

end Go.Proofs.Ytjklepabliehdaa
