/-
  Lists of numbers that a call makes, and lists that a call reads. No condition beyond those that each theorem states.
-/
import Derived.Test.YtfdpdhinigfpfaaCore
import Derived.OwnWalk
import Derived.LoopTactic
import Derived.Lib.Hide
import Derived.Deep.QuietTactic
import Derived.BigQuiet
namespace Go.Proofs.Ytfdpdhinigfpfaa
open Go.RowKit

theorem info_int : (Try.prog.info? 3).map (fun i => (i.zero, i.size, i.bytes)) = some (some (.int .i64 0), 1, 8) := by kernel_rfl

/-- A list of numbers of the call's own, in blocks from B on. -/
def Own (w : World) (B : Nat) (v : Value) (zs : List Int) : Prop := w.ownsRow B 3 1 v zs.length (zs.map (Value.int .i64))
/-- A slice that reads as the list. -/
def Ints (w : World) (a : Option Addr) (zs : List Int) : Prop :=
  zs = [] ∨ ∃ blk off, a = some ⟨blk, off, none⟩ ∧ ∀ i, i < zs.length → w.cell? ⟨blk, off + i, none⟩ = some (.int .i64 (zs.getD i 0))

section
variable {w w' : World} {B : Nat} {v : Value} {zs : List Int} {a : Option Addr}
theorem Own.nil (w : World) (B : Nat) : Own w B (.slice none 0 0) [] := World.ownsRow_nil w B _ 1
theorem Own.made (w : World) (B : Nat) (hB : B ≤ w.heap.size) : Own (w.alloc (.cells #[] 3)) B (.slice (some ⟨w.heap.size, 0, none⟩) 0 0) [] :=
  World.ownsRow_lit w #[] 0 hB (Nat.zero_le _) rfl
theorem Own.form (h : Own w B v zs) : ∃ a c, v = .slice a zs.length c ∧ zs.length ≤ c ∧ c ≤ maxLen ∧ Ints w a zs := by
  rcases h.2 with ⟨rfl, h0⟩ | ⟨g, cap, cur, rfl, hb, hg, hn, hc, hs, ht⟩
  · exact ⟨none, 0, by rw [h0], by omega, Nat.zero_le _, .inl (List.eq_nil_of_length_eq_zero h0)⟩
  · refine ⟨_, cap, rfl, hn, hc, .inr ⟨g, 0, rfl, fun i hi => ?_⟩⟩
    have h1 := World.ownsRow.cellAt h i (by omega)
    rw [Nat.zero_add, h1]
    simp [hi]
theorem Own.ints {n c : Nat} (h : Own w B (.slice a n c) zs) : n = zs.length ∧ Ints w a zs := by
  obtain ⟨a', c', e, _, _, hi⟩ := h.form
  simp only [Value.slice.injEq] at e
  obtain ⟨rfl, rfl, _⟩ := e
  exact ⟨rfl, hi⟩
theorem Own.alloc (h : Own w B v zs) (o : Obj) : Own (w.alloc o) B v zs := World.ownsRow.alloc h o
theorem Own.drw (h : Own w B v zs) (d : Nat) : Own (drw w d) B v zs := h
theorem Own.lt (h : Own w B v zs) : ∀ k, v.ownBlock = some k → B ≤ k ∧ k < w.heap.size := World.ownsRow.lt h
theorem Own.more {B' : Nat} (h : Own w B v zs) (hB : B' ≤ B) : Own w B' v zs := by
  refine ⟨h.1, ?_⟩
  rcases h.2 with h0 | ⟨g, cap, cur, hv, hb, r⟩
  · exact .inl h0
  · exact .inr ⟨g, cap, cur, hv, by omega, r⟩
/-- What was owned is owned where nothing that was there has turned. -/
theorem Own.below (h : Own w B v zs) (hb : Below w.heap.size w w') : Own w' B v zs := by
  refine ⟨h.1, ?_⟩
  rcases h.2 with h0 | ⟨g, cap, cur, hv, hg, hc, r⟩
  · exact .inl h0
  · exact .inr ⟨g, cap, cur, hv, hg, by rw [hb.block g (Array.getElem?_eq_some_iff.1 hc).1]; exact hc, r⟩
/-- .. or where another row alone has turned. -/
theorem Own.grown (h : Own w B v zs) {v1 : Value} {B1 : Nat} {zs1 : List Int} (h1 : Own w B1 v1 zs1) (hg : w.grownBy w' v1.ownBlock) (hne : ∀ k, v.ownBlock = some k → k < B1) : Own w' B v zs := by
  refine World.ownsRow.kept h hg ?_
  cases hv : v.ownBlock with
  | none => exact .inl rfl
  | some k =>
    right
    intro e
    have a1 := hne k hv
    have a2 := (h1.lt k e.symm).1
    omega
theorem Own.step {w0 : World} (h : Own w B v zs) (hg : w.grownBy w' v.ownBlock) (hB : B ≤ w.heap.size) (hb : Below B w0 w) : Below B w0 w' := hb.grown hg hB fun k hk => (h.lt k hk).1
theorem Ints.below (h : Ints w a zs) (hb : Below w.heap.size w w') : Ints w' a zs := by
  rcases h with h | ⟨blk, off, ha, hc⟩
  · exact .inl h
  · refine .inr ⟨blk, off, ha, fun i hi => ?_⟩
    rw [hb.cell (p := ⟨blk, off + i, none⟩) (World.block_lt_of_cell? _ _ (hc i hi))]
    exact hc i hi
theorem Ints.drw (h : Ints w a zs) (d : Nat) : Ints (drw w d) a zs := h
theorem own_snoc {x : Int} (h : w.ownsRow B 3 1 v (zs.length + 1) (zs.map (Value.int .i64) ++ [.int .i64 x])) : Own w B v (zs ++ [x]) := by
  unfold Own; simpa using h
end

/-- append(list, x). -/
theorem wpList_app {ops : Array Oper} {rest : List Oper} {o : Oper} {a : Act} {w : World} {Q : Exit → Act → World → Prop} (hgd : o.guard = none) (s x : Operand)
    (ho : o.op = .call { callee := .builtin .append, args := #[s, x], argTypes := #[64, 64] }) (B : Nat) (v : Value) (zs : List Int) (hs : a.eval s = v) (hown : Own w B v zs) (ad : Addr) (y : Int)
    (hx : a.eval x = .slice (some ad) 1 1) (hy : w.cell? ad = some (.int .i64 y)) (hlen : zs.length ≤ 1000000000) (hB : B ≤ w.heap.size)
    (h : ∀ v' w', Own w' B v' (zs ++ [y]) → w.grownBy w' v.ownBlock → wpList Try.prog ops Q rest (a.put o.dst v') w') : wpList Try.prog ops Q (o :: rest) a w := by
  obtain ⟨i0, hi, hz0, hz1, hz2⟩ := info_parts info_int
  refine wpList_append_own _ hgd s x 64 ho B 3 i0 (.int .i64 0) 1 8 Try.underlying64 hi hz0 hz1 hz2 rfl (by decide) v zs.length _ hs hown ad 1 1 [.int .i64 y] hx rfl ?_ ?_ ?_ ?_ hB ?_
  · intro j u hj
    match j, hj with
    | 0, hj => simp at hj; subst hj; simpa [Addr.add] using hy
  · intro u hu; simp at hu; subst hu; rfl
  · unfold maxLen; omega
  · omega
  · intro v' w' h1 h2 _
    exact h v' w' (own_snoc h1) h2

/-- A call makes a list. -/
def Made (w : World) (zs : List Int) (e : Ending) (w' : World) : Prop := ∃ a c, e = .returned (.slice a zs.length c) ∧ Own w' w.heap.size (.slice a zs.length c) zs ∧ Below w.heap.size w w'
theorem made {w w' : World} {v : Value} {zs : List Int} (h : Own w' w.heap.size v zs) (hb : Below w.heap.size w w') : Made w zs (.returned v) w' := by
  obtain ⟨a, c, rfl, _⟩ := h.form
  exact ⟨a, c, rfl, h, hb⟩
/-- What a function of places yields when it is done again and again; the list of what it yields. -/
def it (g : Int → Int) (p : Int) : Nat → Int
  | 0 => p
  | k + 1 => g (it g p k)
def tr (g : Int → Int) (p : Int) : Nat → List Int
  | 0 => []
  | k + 1 => tr g p k ++ [it g p (k + 1)]
theorem tr_length (g : Int → Int) (p : Int) : ∀ k, (tr g p k).length = k
  | 0 => rfl
  | k + 1 => by rw [tr, List.length_append, tr_length g p k]; rfl
theorem tr_getD (g : Int → Int) (p : Int) : ∀ {k i : Nat}, i < k → (tr g p k).getD i 0 = it g p (i + 1)
  | k + 1, i, h => by
    rw [tr, List.getD_eq_getElem?_getD, List.getElem?_append, tr_length]
    by_cases hi : i < k
    · rw [if_pos hi, ← List.getD_eq_getElem?_getD, tr_getD g p hi]
    · obtain rfl : i = k := by omega
      simp

/-- The numbers from 1 on. -/
def ones (n : Nat) : List Int := (List.range n).map fun i : Nat => (1 : Int) + i
theorem ones_length (n : Nat) : (ones n).length = n := by simp [ones]
theorem ones_getD {n i : Nat} (h : i < n) : (ones n).getD i 0 = 1 + i := by simp [ones, h]
/-- The first j marked. -/
def mk (zs : List Int) (j : Nat) : List Int := (List.range zs.length).map fun i : Nat => if i < j then (1 : Int) + i else zs.getD i 0
theorem mk_length (zs : List Int) (j : Nat) : (mk zs j).length = zs.length := by simp [mk]
theorem mk_zero (zs : List Int) : mk zs 0 = zs := by
  apply List.ext_getElem
  · simp [mk]
  · intro i h1 h2
    simp [mk, h2]
theorem mk_succ (zs : List Int) (j : Nat) (h : j < zs.length) : (mk zs j).set j (1 + j) = mk zs (j + 1) := by
  apply List.ext_getElem
  · simp [mk]
  · intro i h1 h2
    simp [mk] at h2
    by_cases hi : j = i
    · subst hi; simp [mk]
    · rw [List.getElem_set_ne hi]
      by_cases h3 : i < j
      · simp [mk, h3, Nat.lt_succ_of_lt h3]
      · have : ¬ i < j + 1 := by omega
        simp [mk, h3, this]
theorem mk_all (zs : List Int) : mk zs zs.length = ones zs.length := by
  apply List.ext_getElem
  · simp [mk, ones]
  · intro i h1 h2
    simp [ones] at h2
    simp [mk, ones, h2]
theorem Own.mark {w : World} {B : Nat} {g n c : Nat} {zs : List Int} {j : Nat} (h : Own w B (.slice (some ⟨g, 0, none⟩) n c) (mk zs j)) (hn : n = zs.length) (hj : j < zs.length) :
    Own (w.setCell ⟨g, j, none⟩ (.int .i64 (1 + j))) B (.slice (some ⟨g, 0, none⟩) n c) (mk zs (j + 1)) ∧ w.grownBy (w.setCell ⟨g, j, none⟩ (.int .i64 (1 + j))) (some g) := by
  subst hn
  have h' : w.ownsRow B 3 1 (.slice (some ⟨g, 0, none⟩) zs.length c) zs.length ((mk zs j).map (Value.int .i64)) := by
    have := h; unfold Own at this; rwa [mk_length] at this
  have := h'.stored j (.int .i64 (1 + j))
  refine ⟨?_, this.2⟩
  unfold Own
  rw [mk_length, ← mk_succ zs j hj, List.map_set]
  exact this.1




end Go.Proofs.Ytfdpdhinigfpfaa
