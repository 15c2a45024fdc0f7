/-
  A struct of two numbers is appended to a list of the call's own. Conditions: those that the theorem states.
-/
import Derived.Test.YtfdpdhinigfpfaaLs
import Derived.Deep.AppendLies
namespace Go.Proofs.Ytfdpdhinigfpfaa
open Go.RowKit

theorem OwnG.drewN {T : TypeId} {k : Nat} {w : World} {B : Nat} {v : Value} {n : Nat} {zs : List Int} (h : OwnG T k w B v n zs) (d : Nat) : OwnG T k (w.drewN d) B v n zs := h
theorem OwnG.drew {T : TypeId} {k : Nat} {w : World} {B : Nat} {v : Value} {n : Nat} {zs : List Int} (h : OwnG T k w B v n zs) : OwnG T k w.drew B v n zs := h

theorem Below.dN {B : Nat} {w W : World} (h : Below B w W) (n : Nat) : Below B w (W.drewN n) := ⟨h.os, h.tape, h.output, h.size, h.block⟩
theorem cell_new' {w : World} {cs : Array Value} {e : TypeId} {k i : Nat} {v : Value} (hk : k = w.heap.size) (hv : cs[i]? = some v) : (w.alloc (.cells cs e)).cell? ⟨k, i, none⟩ = some v := by
  subst hk
  exact (World.cell?_alloc_new w cs e i).trans hv

/-- append(list, struct). -/
theorem wpList_app2 {ops : Array Oper} {rest : List Oper} {o : Oper} {a : Act} {w : World} {Q : Exit → Act → World → Prop} (hgd : o.guard = none) (s x : Operand)
    (ho : o.op = .call { callee := .builtin .append, args := #[s, x], argTypes := #[50, 50] }) (B : Nat) (v : Value) (n : Nat) (zs : List Int) (hs : a.eval s = v) (hown : OwnG 36 2 w B v n zs) (b i : Nat) (y0 y1 : Int)
    (hx : a.eval x = .slice (some ⟨b, i, none⟩) 1 1) (hy0 : w.cell? ⟨b, i, none⟩ = some (.int .i64 y0)) (hy1 : w.cell? ⟨b, i + 1, none⟩ = some (.int .i64 y1)) (hlen : n ≤ 1000000000) (hB : B ≤ w.heap.size)
    (h : ∀ v' w', OwnG 36 2 w' B v' (n + 1) (zs ++ [y0, y1]) → w.grownBy w' v.ownBlock → wpList Try.prog ops Q rest (a.put o.dst v') w') : wpList Try.prog ops Q (o :: rest) a w := by
  obtain ⟨i0, hi, hz0, hz1, hz2⟩ := info_parts infoE
  refine wpList_append_own _ hgd s x 50 ho B 36 i0 _ 2 16 Try.underlying50 hi hz0 hz1 hz2 rfl (by decide) v n _ hs hown ⟨b, i, none⟩ 1 1 [.int .i64 y0, .int .i64 y1] hx rfl ?_ ?_ ?_ ?_ hB ?_
  · intro j u hj
    match j, hj with
    | 0, hj => simp at hj; subst hj; simpa [Addr.add] using hy0
    | 1, hj => simp at hj; subst hj; simpa [Addr.add] using hy1
  · intro u hu; simp at hu; rcases hu with rfl | rfl <;> rfl
  · unfold maxLen; omega
  · omega
  · intro v' w' h1 h2 _
    refine h v' w' ?_ h2
    unfold OwnG
    simpa using h1

/-- .. at a step of a region that draws its order. -/
theorem step_app2 {ops : Array Oper} {o : Oper} {a : Act} {w : World} {K : Act → World → Prop} {Q : Exit → Act → World → Prop} {E : Prop} (hgd : o.guard = none) (s x : Operand)
    (ho : o.op = .call { callee := .builtin .append, args := #[s, x], argTypes := #[50, 50] }) (B : Nat) (v : Value) (n : Nat) (zs : List Int) (hs : a.eval s = v) (hown : OwnG 36 2 w B v n zs) (b i : Nat) (y0 y1 : Int)
    (hx : a.eval x = .slice (some ⟨b, i, none⟩) 1 1) (hy0 : w.cell? ⟨b, i, none⟩ = some (.int .i64 y0)) (hy1 : w.cell? ⟨b, i + 1, none⟩ = some (.int .i64 y1)) (hlen : n ≤ 1000000000) (hB : B ≤ w.heap.size)
    (h : ∀ v' w', OwnG 36 2 w' B v' (n + 1) (zs ++ [y0, y1]) → w.grownBy w' v.ownBlock → K (a.put o.dst v') w') : if Region.wanted o (yielded ops a.tmps) = true then Oper.wp Try.prog o a w K Q else E := by
  obtain ⟨i0, hi, hz0, hz1, hz2⟩ := info_parts infoE
  refine step_append_lies w hgd s x 50 ho B 36 i0 _ 2 16 Try.underlying50 hi hz0 hz1 hz2 rfl (by decide) v n _ hs hown ⟨b, i, none⟩ 1 1 [.int .i64 y0, .int .i64 y1] hx rfl ?_ ?_ (by decide) (by unfold maxLen; omega) (by omega) hB _ rfl ?_
  · intro j u hj
    match j, hj with
    | 0, hj => simp at hj; subst hj; simpa [Addr.add] using hy0
    | 1, hj => simp at hj; subst hj; simpa [Addr.add] using hy1
  · intro u hu; simp at hu; rcases hu with rfl | rfl <;> rfl
  · intro g cap w' h1 h2 _ _
    refine h _ w' ?_ h2
    unfold OwnG
    simpa using h1
theorem grown_far {T : TypeId} {k : Nat} {w w' : World} {B : Nat} {v : Value} {n : Nat} {zs : List Int} {b i : Nat} {u : Value} (hown : OwnG T k w B v n zs) (hg : w.grownBy w' v.ownBlock) (hb : b < B) (hB : B ≤ w.heap.size) (h : w.cell? ⟨b, i, none⟩ = some u) : w'.cell? ⟨b, i, none⟩ = some u :=
  (World.cell?_of_block (w := w) (a := ⟨b, i, none⟩) (hg.block b (by omega) (fun e => by have := (hown.lt b e.symm).1; omega))).trans h

end Go.Proofs.Ytfdpdhinigfpfaa
