/-
  Contracts of the runs of a motor (program and reference). No condition.
-/
import Derived.Test.YtelcaafnjahbkaaOwn
import Derived.Test.YtelcaafnjahbkaaMo2
import Derived.Test.YtelcaafnjahbkaaMo3
import Derived.Test.YtelcaafnjahbkaaLast
namespace Go.Proofs.Ytelcaafnjahbkaa
open Go.RowKit

/-! ### plain -/
/-- Angle and speed after j steps. -/
def runA (t k d f : Int) : Nat → Int × Int → Int × Int
  | 0, p => p
  | j + 1, p => (stepA (runA t k d f j p).1 (runA t k d f j p).2 (aimF (runA t k d f j p).1 (runA t k d f j p).2 t k d) f, stepS (runA t k d f j p).1 (runA t k d f j p).2 (aimF (runA t k d f j p).1 (runA t k d f j p).2 t k d) f)
def runL (t k d f : Int) (p : Int × Int) : Nat → List Int
  | 0 => []
  | j + 1 => runL t k d f p j ++ [(runA t k d f (j + 1) p).1]
theorem runL_length (t k d f : Int) (p : Int × Int) : ∀ j, (runL t k d f p j).length = j
  | 0 => rfl
  | j + 1 => by rw [runL, List.length_append, runL_length t k d f p j]; rfl
theorem runL_getD (t k d f : Int) (p : Int × Int) : ∀ {j i : Nat}, i < j → (runL t k d f p j).getD i 0 = (runA t k d f (i + 1) p).1
  | j + 1, i, h => by
    rw [runL, List.getD_eq_getElem?_getD, List.getElem?_append, runL_length]
    by_cases hi : i < j
    · rw [if_pos hi, ← List.getD_eq_getElem?_getD, runL_getD t k d f p hi]
    · obtain rfl : i = j := by omega
      simp
def runB (a s t k d f m : Int) : Bool := motB a s && (aimB t k d && (inB f 0 100 && inB m 0 400))
def runF (a s t k d f m : Int) : List Int := if runB a s t k d f m = true then runL t k d f (a, s) m.toNat else []
theorem runF_len (a s t k d f m : Int) : (runF a s t k d f m).length ≤ 400 := by
  unfold runF
  split
  · rename_i h
    simp only [runB, Bool.and_eq_true] at h
    have := inB_t.1 h.2.2.2
    rw [runL_length]; omega
  · simp
theorem aimF_bd (a s t k d : Int) : -100 ≤ aimF a s t k d ∧ aimF a s t k d ≤ 100 := by
  unfold aimF
  split
  · exact clampF_bd (by omega)
  · omega
theorem stA_bd (a s t f : Int) : -10000 ≤ stA a s t f ∧ stA a s t f ≤ 10000 := clampF_bd (by omega)
theorem stS_bd (a s t f : Int) : -200 ≤ stS a s t f ∧ stS a s t f ≤ 200 := by
  have := spd_bd s t f
  unfold stS; split <;> omega
theorem run_step {a s f : Int} (T : Int) (h : motB a s = true) (hT : -100 ≤ T ∧ T ≤ 100) (hf : 0 ≤ f ∧ f ≤ 100) : stepB a s T f = true ∧ stepA a s T f = stA a s T f ∧ stepS a s T f = stS a s T f ∧ motB (stepA a s T f) (stepS a s T f) = true := by
  have hB : stepB a s T f = true := stepB_t.2 ⟨motB_t.1 h, hT, hf⟩
  have e1 : stepA a s T f = stA a s T f := by rw [stepA, if_pos hB]
  have e2 : stepS a s T f = stS a s T f := by rw [stepS, if_pos hB]
  exact ⟨hB, e1, e2, by rw [e1, e2]; exact motB_t.2 ⟨stA_bd _ _ _ _, stS_bd _ _ _ _⟩⟩
theorem runA_valid {a s t k d f : Int} (h : motB a s = true) (hf : 0 ≤ f ∧ f ≤ 100) : ∀ j, motB (runA t k d f j (a, s)).1 (runA t k d f j (a, s)).2 = true
  | 0 => h
  | j + 1 => (run_step _ (runA_valid h hf j) (aimF_bd _ _ _ _ _) hf).2.2.2

/-! ### memory -/
def Box2 (w : World) (B : Nat) (x y : Int) : Prop := w.heap[B]? = some (.cells #[.int .i64 x, .int .i64 y] 25 (0, 0))
theorem Box2.lt {w : World} {B : Nat} {x y : Int} (h : Box2 w B x y) : B < w.heap.size := (Array.getElem?_eq_some_iff.1 h).1
theorem Box2.c0 {w : World} {B : Nat} {x y : Int} (h : Box2 w B x y) : w.cell? ⟨B, 0, none⟩ = some (.int .i64 x) := cell_of_row w B 0 _ _ (0, 0) h
theorem Box2.c1 {w : World} {B : Nat} {x y : Int} (h : Box2 w B x y) : w.cell? ⟨B, 1, none⟩ = some (.int .i64 y) := cell_of_row w B 1 _ _ (0, 0) h
theorem Box2.fr {w : World} {B : Nat} {x y : Int} (h : Box2 w B x y) (i : Nat) : w.frozen? ⟨B, i, none⟩ = false := frozen_of_row w B i _ _ h
theorem Box2.plus {w : World} {B : Nat} {x y : Int} (h : Box2 w B x y) (os : Array Obj) (d : Nat) : Box2 (plus w os d) B x y := (plus_block h.lt).trans h
theorem Box2.alloc {w : World} {B : Nat} {x y : Int} (h : Box2 w B x y) (o : Obj) : Box2 (w.alloc o) B x y := (Below.heap_alloc w o B h.lt).trans h
theorem Box2.set {w : World} {B : Nat} {x y : Int} (h : Box2 w B x y) (x' y' : Int) : Box2 ((w.setCell ⟨B, 0, none⟩ (.int .i64 x')).setCell ⟨B, 1, none⟩ (.int .i64 y')) B x' y' :=
  heap_setCell_same _ B 1 _ _ _ (heap_setCell_same w B 0 _ _ _ h)
theorem Box2.grown {w w' : World} {B B' : Nat} {x y : Int} {v : Value} {zs : List Int} (h : Box2 w B x y) (ho : Own w B' v zs) (hB : B < B') (hg : w.grownBy w' v.ownBlock) : Box2 w' B x y :=
  (hg.block B h.lt (fun e => by have := (ho.lt B e.symm).1; omega)).trans h

theorem aim_enters (args : Array Value) (w : World) : (callFunc 20 args).run Try.prog w = .ok (.enter 20 args) w := by
  simp [callFunc, go_sem]
  have n1 : Try.f20.name ≠ "runtime.NumGoroutine" := by
    have : (Try.f20.name == "runtime.NumGoroutine") = false := by kernel_rfl
    simpa using this
  have n2 : Try.f20.body ≠ none := by
    have : Try.f20.body.isNone = false := by kernel_rfl
    intro h; rw [h] at this; cases this
  rw [if_neg n1, if_neg n2]

theorem step_enters (args : Array Value) (w : World) : (callFunc 24 args).run Try.prog w = .ok (.enter 24 args) w := by
  simp [callFunc, go_sem]
  have n1 : Try.f24.name ≠ "runtime.NumGoroutine" := by
    have : (Try.f24.name == "runtime.NumGoroutine") = false := by kernel_rfl
    simpa using this
  have n2 : Try.f24.body ≠ none := by
    have : Try.f24.body.isNone = false := by kernel_rfl
    intro h; rw [h] at this; cases this
  rw [if_neg n1, if_neg n2]

theorem sAim_enters (args : Array Value) (w : World) : (callFunc 41 args).run Try.prog w = .ok (.enter 41 args) w := by
  simp [callFunc, go_sem]
  have n1 : Try.f41.name ≠ "runtime.NumGoroutine" := by
    have : (Try.f41.name == "runtime.NumGoroutine") = false := by kernel_rfl
    simpa using this
  have n2 : Try.f41.body ≠ none := by
    have : Try.f41.body.isNone = false := by kernel_rfl
    intro h; rw [h] at this; cases this
  rw [if_neg n1, if_neg n2]

theorem sStep_enters (args : Array Value) (w : World) : (callFunc 47 args).run Try.prog w = .ok (.enter 47 args) w := by
  simp [callFunc, go_sem]
  have n1 : Try.f47.name ≠ "runtime.NumGoroutine" := by
    have : (Try.f47.name == "runtime.NumGoroutine") = false := by kernel_rfl
    simpa using this
  have n2 : Try.f47.body ≠ none := by
    have : Try.f47.body.isNone = false := by kernel_rfl
    intro h; rw [h] at this; cases this
  rw [if_neg n1, if_neg n2]
theorem pure_load {w0 : World} {A : Act} {o : Oper} (x : Operand) (r : Nat) (x0 x1 : Int) (h : o.op = .load 25 x) (hx : A.eval x = .pointer (some ⟨r, 0, none⟩)) (hb : Box2 w0 r x0 x1) (hv : gd A (o.dst.getD 0) = .agg #[.int .i64 x0, .int .i64 x1]) : PureStep Try.prog w0 A o := by
  refine pure_quiet fun a os d hg => ?_
  have gx := (hg x (by simp [h, Op.operands])).trans hx
  rw [hv]
  have c0 := (hb.plus os d).c0
  have c1 := (hb.plus os d).c1
  generalize a.eval = ρ at gx
  generalize plus w0 os d = W at c0 c1
  simp [execOp, h, gx, Instr.loadAt, go_sem, c0, c1]

theorem last_store {w : World} {a : Act} {o : Oper} {K : Act → World → Prop} {Q : Exit → Act → World → Prop} (x y : Operand) (r : Nat) (X Y x' y' : Int) (h : o.op = .store 25 x y) (hx : a.eval x = .pointer (some ⟨r, 0, none⟩)) (hy : a.eval y = .agg #[.int .i64 x', .int .i64 y'])
    (hb : Box2 w r X Y) (hd : o.dst = none) (hK : K a ((w.setCell ⟨r, 0, none⟩ (.int .i64 x')).setCell ⟨r, 1, none⟩ (.int .i64 y'))) : o.wp Try.prog a w K Q := by
  have c0 := hb.c0
  have c1 := hb.c1
  have f0 := hb.fr 0
  have f1 := hb.fr 1
  have hrun : (execOp a.eval o).run Try.prog w = .ok .skip ((w.setCell ⟨r, 0, none⟩ (.int .i64 x')).setCell ⟨r, 1, none⟩ (.int .i64 y')) := by
    generalize a.eval = ρ at hx hy
    simp [execOp, h, hx, hy, Instr.storeAt, go_sem, c0, c1, f0, f1]
  unfold Oper.wp
  rw [hrun]
  show K (a.put o.dst undef) _
  rw [hd]
  exact hK
theorem Own.plus {w : World} {B : Nat} {v : Value} {zs : List Int} (h : Own w B v zs) (os : Array Obj) (d : Nat) : Own (plus w os d) B v zs := h.below (below_plus (Below.refl _ _) os d)
theorem Own.setb {w : World} {B : Nat} {v : Value} {zs : List Int} (h : Own w B v zs) {r i : Nat} (hr : r < B) (u : Value) : Own (w.setCell ⟨r, i, none⟩ u) B v zs := ownsRow_setCell_below h hr u
theorem runA_succ {t k d f : Int} {j : Nat} {p : Int × Int} {X Y : Int} (h : runA t k d f j p = (X, Y)) : runA t k d f (j + 1) p = (stepA X Y (aimF X Y t k d) f, stepS X Y (aimF X Y t k d) f) := by rw [runA, h]
theorem aim_valid {a s t k d : Int} (h : motB a s = true) (h' : aimB t k d = true) : aimF a s t k d = aimG a s t k d := by rw [aimF, h, h']; rfl

end Go.Proofs.Ytelcaafnjahbkaa
