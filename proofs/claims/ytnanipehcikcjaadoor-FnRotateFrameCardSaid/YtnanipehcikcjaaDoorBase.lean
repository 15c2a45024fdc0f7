/-
  Small laws on worlds ('plus': a world with new blocks behind it and some draws made), used by every walk of this seat. No condition.
-/
import Derived.Test.YtnanipehcikcjaaDoorRows
import Derived.WalkKit
import Derived.WalkSpells
import Derived.WalkLawsBesides
import Derived.Deep.Draws
namespace Go.Proofs.YtnanipehcikcjaaDoor
open Go.RowKit

/-- w with the blocks os laid behind it, and the count of draws set to d. -/
def plus (w : World) (os : Array Obj) (d : Nat) : World := { w with heap := w.heap ++ os, drawn := d }
section
variable {w : World} {os : Array Obj} {d : Nat}
@[go_sem] theorem plus_size : (plus w os d).heap.size = w.heap.size + os.size := by simp [plus]
theorem plus_block {k : Nat} (h : k < w.heap.size) : (plus w os d).heap[k]? = w.heap[k]? := by
  show (w.heap ++ os)[k]? = _
  rw [Array.getElem?_append_left h]
@[go_sem] theorem plus_cell (n i : Nat) (h : n < w.heap.size) : (plus w os d).cell? ⟨n, i, none⟩ = w.cell? ⟨n, i, none⟩ := World.cell?_of_block (plus_block h)
@[go_sem] theorem plus_frozen (n i : Nat) (h : n < w.heap.size) : (plus w os d).frozen? ⟨n, i, none⟩ = w.frozen? ⟨n, i, none⟩ := World.frozen?_of_block (plus_block h)
@[go_sem] theorem plus_setCell (n i : Nat) (v : Value) (h : n < w.heap.size) : (plus w os d).setCell ⟨n, i, none⟩ v = plus (w.setCell ⟨n, i, none⟩ v) os d := by
  unfold World.setCell plus
  congr 1
  apply Array.ext_getElem?
  intro k
  simp only [Array.getElem?_modify, Array.getElem?_append, Array.size_modify]
  by_cases hk : n = k
  · subst hk; simp [h]
  · simp [hk]
@[go_sem] theorem plus_drew : (plus w os d).drew = plus w os (d + 1) := rfl
@[go_sem] theorem plus_drewN (n : Nat) : (plus w os d).drewN n = plus w os (d + n) := rfl
@[go_sem] theorem drew_plus : plus w.drew os d = plus w os d := rfl
@[go_sem] theorem drewN_plus (n : Nat) : plus (w.drewN n) os d = plus w os d := rfl
@[go_sem] theorem plus_plus (os' : Array Obj) (d' : Nat) : plus (plus w os d) os' d' = plus w (os ++ os') d' := by simp [plus, Array.append_assoc]
theorem plus_id : plus w #[] w.drawn = w := by simp [plus]
theorem drewN_is_plus (n : Nat) : w.drewN n = plus w #[] (w.drawn + n) := by unfold plus World.drewN; rw [Array.append_empty]
theorem drew_is_plus : w.drew = plus w #[] (w.drawn + 1) := by unfold plus World.drew; rw [Array.append_empty]
theorem alloc_is_plus (o : Obj) : w.alloc o = plus w #[o] w.drawn := by unfold plus World.alloc; rw [Array.push_eq_append]
/-- w with the count of draws set to d. -/
def drw (w : World) (d : Nat) : World := { w with drawn := d }
@[go_sem] theorem drw_heap : (drw w d).heap = w.heap := rfl
@[go_sem] theorem drw_cell (a : Addr) : (drw w d).cell? a = w.cell? a := rfl
@[go_sem] theorem drw_frozen (a : Addr) : (drw w d).frozen? a = w.frozen? a := rfl
@[go_sem] theorem drw_shape (r : Nat) : (drw w d).shape? r = w.shape? r := rfl
@[go_sem] theorem drw_setCell (a : Addr) (v : Value) : (drw w d).setCell a v = drw (w.setCell a v) d := rfl
@[go_sem] theorem drw_alloc (o : Obj) : (drw w d).alloc o = drw (w.alloc o) d := rfl
@[go_sem] theorem drw_drw (d' : Nat) : drw (drw w d) d' = drw w d' := rfl
@[go_sem] theorem drw_drew : (drw w d).drew = drw w (d + 1) := rfl
@[go_sem] theorem drw_drewN (n : Nat) : (drw w d).drewN n = drw w (d + n) := rfl
@[go_sem] theorem drew_drw : drw w.drew d = drw w d := rfl
@[go_sem] theorem drewN_drw (n : Nat) : drw (w.drewN n) d = drw w d := rfl
@[go_sem] theorem plus_drw (d' : Nat) : plus (drw w d') os d = plus w os d := rfl
@[go_sem] theorem drw_plus (d' : Nat) : drw (plus w os d) d' = plus w os d' := rfl
theorem drw_id : drw w w.drawn = w := rfl
theorem drewN_is_drw (n : Nat) : w.drewN n = drw w (w.drawn + n) := rfl
theorem drew_is_drw : w.drew = drw w (w.drawn + 1) := rfl
theorem le_of_lt {a b : Nat} (h : a < b) : (a ≤ b) = True := by simp; omega
theorem lt_plus1 {a b n : Nat} (h : a < b) : (a < b + n) = True := by simp; omega
theorem lt_plus2 {a b n m : Nat} (h : a < b) : (a < b + n + m) = True := by simp; omega
theorem lt_plus3 {a b n m k : Nat} (h : a < b) : (a < b + n + m + k) = True := by simp; omega
theorem lt_plus4 {a b n m k l : Nat} (h : a < b) : (a < b + n + m + k + l) = True := by simp; omega
theorem lt_plus5 {a b n m k l i : Nat} (h : a < b) : (a < b + n + m + k + l + i) = True := by simp; omega
theorem lt_plus6 {a b n m k l i j : Nat} (h : a < b) : (a < b + n + m + k + l + i + j) = True := by simp; omega
theorem lt_plus7 {a b n m k l i j p : Nat} (h : a < b) : (a < b + n + m + k + l + i + j + p) = True := by simp; omega
theorem lt_plus8 {a b n m k l i j p q : Nat} (h : a < b) : (a < b + n + m + k + l + i + j + p + q) = True := by simp; omega
theorem le_plus1 {a b n : Nat} (h : a ≤ b) : (a ≤ b + n) = True := by simp; omega
theorem le_plus2 {a b n m : Nat} (h : a ≤ b) : (a ≤ b + n + m) = True := by simp; omega
theorem le_plus3 {a b n m k : Nat} (h : a ≤ b) : (a ≤ b + n + m + k) = True := by simp; omega
theorem le_plus4 {a b n m k l : Nat} (h : a ≤ b) : (a ≤ b + n + m + k + l) = True := by simp; omega
theorem le_plus5 {a b n m k l i : Nat} (h : a ≤ b) : (a ≤ b + n + m + k + l + i) = True := by simp; omega
theorem le_plus6 {a b n m k l i j : Nat} (h : a ≤ b) : (a ≤ b + n + m + k + l + i + j) = True := by simp; omega
theorem le_plus7 {a b n m k l i j p : Nat} (h : a ≤ b) : (a ≤ b + n + m + k + l + i + j + p) = True := by simp; omega
theorem le_plus8 {a b n m k l i j p q : Nat} (h : a ≤ b) : (a ≤ b + n + m + k + l + i + j + p + q) = True := by simp; omega
attribute [go_sem] le_of_lt lt_plus1 lt_plus2 lt_plus3 lt_plus4 lt_plus5 lt_plus6 lt_plus7 lt_plus8 le_plus1 le_plus2 le_plus3 le_plus4 le_plus5 le_plus6 le_plus7 le_plus8
theorem setCell_again (n i : Nat) (v v' : Value) : (w.setCell ⟨n, i, none⟩ v).setCell ⟨n, i, none⟩ v' = w.setCell ⟨n, i, none⟩ v' := by
  unfold World.setCell
  congr 1
  apply Array.ext_getElem?
  intro k
  simp only [Array.getElem?_modify]
  by_cases hk : n = k
  · subst hk
    cases w.heap[n]? with
    | none => simp
    | some x => cases x <;> simp
  · simp [hk]
attribute [go_sem] setCell_again
end

/-- Nothing that was there has turned, and nothing but new blocks has come: the world is 'plus'. -/
theorem plus_of_below {w w1 : World} (h : Below w.heap.size w w1) : ∃ os d, w1 = plus w os d := by
  refine ⟨w1.heap.extract w.heap.size w1.heap.size, w1.drawn, ?_⟩
  obtain ⟨h1, h2, h3, h4, h5⟩ := h
  obtain ⟨hp, t, d, o, ou⟩ := w1
  simp only at h1 h2 h3 h4 h5
  subst h1 h2 h3
  simp only [plus, World.mk.injEq, and_true]
  apply Array.ext_getElem?
  intro k
  rw [Array.getElem?_append]
  split
  · rename_i hk; exact h5 k hk
  · rename_i hk
    rw [Array.getElem?_extract]
    by_cases hk2 : k < hp.size
    · simp; rw [if_pos (by omega)]; congr 1; omega
    · rw [Array.getElem?_eq_none (by omega)]; simp; omega
theorem below_plus {w W : World} (h : Below w.heap.size w W) (os : Array Obj) (d : Nat) : Below w.heap.size w (plus W os d) :=
  h.trans ⟨rfl, rfl, rfl, by simp [plus], fun _ hk => plus_block (Nat.lt_of_lt_of_le hk h.size)⟩
theorem below_alloc {w W : World} (h : Below w.heap.size w W) (o : Obj) : Below w.heap.size w (W.alloc o) := h.alloc h.size o
theorem below_set {w W : World} (h : Below w.heap.size w W) {p : Addr} (hp : w.heap.size ≤ p.block) (u : Value) : Below w.heap.size w (W.setCell p u) := h.setCell hp u
theorem below_drewN {w W : World} (h : Below w.heap.size w W) (n : Nat) : Below w.heap.size w (W.drewN n) := ⟨h.os, h.tape, h.output, h.size, h.block⟩
theorem below_drew {w W : World} (h : Below w.heap.size w W) : Below w.heap.size w W.drew := ⟨h.os, h.tape, h.output, h.size, h.block⟩

theorem below_drw {w W : World} (h : Below w.heap.size w W) (d : Nat) : Below w.heap.size w (drw W d) := ⟨h.os, h.tape, h.output, h.size, h.block⟩

/-- n lies in lo .. hi. -/
def inB (n lo hi : Int) : Bool := decide (lo ≤ n) && decide (n ≤ hi)
theorem inB_t {n lo hi : Int} : inB n lo hi = true ↔ lo ≤ n ∧ n ≤ hi := by simp [inB]
theorem inB_f {n lo hi : Int} : inB n lo hi = false ↔ n < lo ∨ hi < n := by simp [inB]; omega

end Go.Proofs.YtnanipehcikcjaaDoor
