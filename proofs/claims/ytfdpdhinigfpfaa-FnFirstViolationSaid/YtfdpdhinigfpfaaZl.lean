/-
  Lists of structs of numbers, as the flat list of their numbers. No condition beyond those that each theorem states.
-/
import Derived.Test.YtfdpdhinigfpfaaOwn
import Derived.Deep.Slices
import Derived.Deep.Fields
import Derived.ChangeSame
import Derived.OpenShut
namespace Go.Proofs.Ytfdpdhinigfpfaa
open Go.RowKit Go.ChangeShapes Go.WideShapes Go.Deep

/-- A type whose values are k numbers. -/
def IntCells (t : TypeId) (k : Nat) : Prop :=
  ∀ {H : Type} {enc : TypeId × Value → H} {w : World} {base : Nat} {spare : Nat → Bool} {held : Bool} {fuel : Nat} {cs : List Value} {x : DataW H × List MemPlace},
    DataW.trod enc Try.prog w base spare held fuel t cs = some x → ∃ zs : List Int, cs = zs.map (Value.int .i64) ∧ zs.length = k ∧ ∀ n ∈ zs, (Lit.int .i64 n).wf = true
theorem intCells_int {t : TypeId} (ht : Try.prog.underlying t = some (.int .i64)) : IntCells t 1 := fun h => by
  obtain ⟨n, rfl, _, hw⟩ := DataW.trod_int ht h
  exact ⟨[n], rfl, rfl, by simpa using hw⟩
theorem intCells_struct2 {t : TypeId} {f0 f1 : Field} {k0 k1 : Nat} (ht : Try.prog.underlying t = some (.struct #[f0, f1])) (o0 : f0.offset = 0) (o1 : f1.offset = k0) (c0 : Try.prog.cellsOf f0.type = k0) (c1 : Try.prog.cellsOf f1.type = k1) (hC : Try.prog.cellsOf t = k0 + k1)
    (i0 : IntCells f0.type k0) (i1 : IntCells f1.type k1) : IntCells t (k0 + k1) := fun h => by
  obtain ⟨xs, n, _, _, hlen, hxs, hf⟩ := DataW.trod_struct ht h
  have h0 := hf 0 f0 rfl
  have h1 := hf 1 f1 rfl
  simp at hxs
  rw [o0, c0, List.getElem?_eq_getElem (by omega), List.drop_zero] at h0
  rw [o1, c1, List.getElem?_eq_getElem (by omega)] at h1
  obtain ⟨z0, e0, l0, w0⟩ := i0 h0
  obtain ⟨z1, e1, l1, w1⟩ := i1 h1
  refine ⟨z0 ++ z1, ?_, by simp [l0, l1], ?_⟩
  · rw [List.map_append, ← e0, ← e1, List.take_of_length_le (l := List.drop _ _) (by rw [List.length_drop, hlen, hC]; omega), List.take_append_drop]
  · intro n hn
    rcases List.mem_append.1 hn with h | h
    · exact w0 n h
    · exact w1 n h
theorem intCells_struct3 {t : TypeId} {f0 f1 f2 : Field} {k0 k1 k2 : Nat} (ht : Try.prog.underlying t = some (.struct #[f0, f1, f2])) (o0 : f0.offset = 0) (o1 : f1.offset = k0) (o2 : f2.offset = k0 + k1) (c0 : Try.prog.cellsOf f0.type = k0) (c1 : Try.prog.cellsOf f1.type = k1) (c2 : Try.prog.cellsOf f2.type = k2) (hC : Try.prog.cellsOf t = k0 + k1 + k2)
    (i0 : IntCells f0.type k0) (i1 : IntCells f1.type k1) (i2 : IntCells f2.type k2) : IntCells t (k0 + k1 + k2) := fun h => by
  obtain ⟨xs, n, _, _, hlen, hxs, hf⟩ := DataW.trod_struct ht h
  have h0 := hf 0 f0 rfl
  have h1 := hf 1 f1 rfl
  have h2 := hf 2 f2 rfl
  simp at hxs
  rw [o0, c0, List.getElem?_eq_getElem (by omega), List.drop_zero] at h0
  rw [o1, c1, List.getElem?_eq_getElem (by omega)] at h1
  rw [o2, c2, List.getElem?_eq_getElem (by omega)] at h2
  obtain ⟨z0, e0, l0, w0⟩ := i0 h0
  obtain ⟨z1, e1, l1, w1⟩ := i1 h1
  obtain ⟨z2, e2, l2, w2⟩ := i2 h2
  refine ⟨z0 ++ (z1 ++ z2), ?_, by simp [l0, l1, l2]; omega, ?_⟩
  · rw [List.map_append, List.map_append, ← e0, ← e1, ← e2, List.take_of_length_le (l := List.drop (k0 + k1) _) (by rw [List.length_drop, hlen, hC]; omega), ← List.drop_drop, List.take_append_drop, List.take_append_drop]
  · intro n hn
    rcases List.mem_append.1 hn with h | h
    · exact w0 n h
    · rcases List.mem_append.1 h with h | h
      · exact w1 n h
      · exact w2 n h

/-- A slice that was handed in: its numbers. -/
theorem open_flat {H : Type} {enc : TypeId × Value → H} {W : World} {t e : TypeId} {K : Nat} (ht : Try.prog.underlying t = some (.slice e)) (he : IntCells e K) (hC : Try.prog.cellsOf e = K) {a : Option Addr} {n c : Nat} {d : DataW H} {p : List MemPlace}
    (h : DataW.Trod enc Try.prog W 0 (fun _ => true) true t (.slice a n c) d p) : n ≤ c ∧ c ≤ maxLen ∧ ∃ zs : List Int, zs.length = n * K ∧ Ints W a zs ∧ ∀ z ∈ zs, (Lit.int .i64 z).wf = true := by
  obtain ⟨fuel, hf⟩ := h
  rcases open_slice ht hf with ⟨hcs, _⟩ | ⟨x, len, cap, m, n', D, Pl, hcs, hb, hl, hm, hmm, hx, hi⟩
  · simp [Value.cells] at hcs
    obtain ⟨rfl, rfl, rfl⟩ := hcs
    exact ⟨Nat.le_refl _, Nat.zero_le _, [], by simp, .inl rfl, by simp⟩
  · simp [Value.cells] at hcs
    obtain ⟨rfl, rfl, rfl⟩ := hcs
    simp at hmm
    refine ⟨hl, hm, ?_⟩
    have hall : ∀ i, ∃ zs : List Int, i < n → zs.length = K ∧ (∀ j, j < K → W.cell? ((x.add (i * K)).add j) = some (.int .i64 (zs.getD j 0))) ∧ ∀ z ∈ zs, (Lit.int .i64 z).wf = true := by
      intro i
      by_cases hin : i < n
      · obtain ⟨cs', hc, htr⟩ := hi i (by omega)
        rw [hC] at hc
        obtain ⟨zs, e1, l1, w1⟩ := he htr
        obtain ⟨_, _, hat⟩ := World.cells?_some hc
        refine ⟨zs, fun _ => ⟨l1, fun j hj => ?_, w1⟩⟩
        rw [hat j hj, e1, List.getElem?_map, List.getElem?_eq_getElem (by omega), List.getD_eq_getElem?_getD, List.getElem?_eq_getElem (by omega)]
        rfl
      · exact ⟨[], fun h => absurd h hin⟩
    obtain ⟨f, hfz⟩ := Classical.axiomOfChoice hall
    by_cases h0 : n * K = 0
    · exact ⟨[], by simp [h0], .inl rfl, by simp⟩
    · have hK : 0 < K := Nat.pos_of_ne_zero (fun h => h0 (by rw [h, Nat.mul_zero]))
      have hg : ∀ j, j < n * K → ((List.range (n * K)).map fun j => (f (j / K)).getD (j % K) 0).getD j 0 = (f (j / K)).getD (j % K) 0 := by
        intro j hj
        simp [hj]
      have hcell : ∀ j, j < n * K → W.cell? (x.add j) = some (.int .i64 ((f (j / K)).getD (j % K) 0)) := by
        intro j hj
        have h1 := (hfz (j / K) (Nat.div_lt_of_lt_mul (by rw [Nat.mul_comm]; exact hj))).2.1 (j % K) (Nat.mod_lt _ hK)
        rw [Go.Deep.add_add, Nat.mul_comm, Nat.div_add_mod] at h1
        exact h1
      obtain ⟨blk, off, spot⟩ := x
      have hspot : spot = none := by
        have h1 := hcell 0 (by omega)
        simpa [Addr.add] using World.cell?_spot h1
      subst hspot
      refine ⟨(List.range (n * K)).map fun j => (f (j / K)).getD (j % K) 0, by simp, .inr ⟨blk, off, rfl, fun j hj => ?_⟩, ?_⟩
      · simp at hj
        rw [hg j hj, ← addr_add]
        exact hcell j hj
      · intro z hz
        obtain ⟨j, hj, rfl⟩ := List.mem_map.1 hz
        have hj := List.mem_range.1 hj
        obtain ⟨l1, _, w1⟩ := hfz (j / K) (Nat.div_lt_of_lt_mul (by rw [Nat.mul_comm]; exact hj))
        have hm' : j % K < (f (j / K)).length := by rw [l1]; exact Nat.mod_lt _ hK
        refine w1 _ ?_
        rw [List.getD_eq_getElem?_getD, List.getElem?_eq_getElem hm']
        exact List.getElem_mem hm'

/-- The first j numbers as f says, the others as they were. -/
def upd (f : Nat → Int) (zs : List Int) (j : Nat) : List Int := (List.range zs.length).map fun i => if i < j then f i else zs.getD i 0
theorem upd_length (f : Nat → Int) (zs : List Int) (j : Nat) : (upd f zs j).length = zs.length := by simp [upd]
theorem upd_zero (f : Nat → Int) (zs : List Int) : upd f zs 0 = zs := by
  apply List.ext_getElem
  · simp [upd]
  · intro i h1 h2; simp [upd, h2]
theorem upd_succ (f : Nat → Int) (zs : List Int) (j : Nat) : (upd f zs j).set j (f j) = upd f zs (j + 1) := by
  apply List.ext_getElem
  · simp [upd]
  · intro i h1 h2
    simp [upd] at h2
    by_cases hi : j = i
    · subst hi; simp [upd]
    · rw [List.getElem_set_ne hi]
      by_cases h3 : i < j
      · simp [upd, h3, Nat.lt_succ_of_lt h3]
      · have : ¬ i < j + 1 := by omega
        simp [upd, h3, this]
theorem upd_ones (zs : List Int) : upd (fun i => 1 + (i : Int)) zs zs.length = ones zs.length := by
  apply List.ext_getElem
  · simp [upd, ones]
  · intro i h1 h2
    simp [ones] at h2
    simp [upd, ones, h2]
theorem upd_copy (zs us : List Int) (h : us.length = zs.length) : upd (fun i => zs.getD i 0) us zs.length = zs := by
  apply List.ext_getElem
  · simp [upd, h]
  · intro i h1 h2
    simp [upd, h, h2]

/-- A list of structs of k numbers of the call's own, in blocks from B on. -/
def OwnG (T : TypeId) (k : Nat) (w : World) (B : Nat) (v : Value) (n : Nat) (zs : List Int) : Prop := w.ownsRow B T k v n (zs.map (Value.int .i64))
section
variable {T : TypeId} {k : Nat} {w w' : World} {B : Nat} {v : Value} {n : Nat} {zs : List Int} {a : Option Addr}
theorem OwnG.nil (T : TypeId) (k : Nat) (w : World) (B : Nat) : OwnG T k w B (.slice none 0 0) 0 [] := World.ownsRow_nil w B _ k
theorem OwnG.made (T : TypeId) (k : Nat) (w : World) (B : Nat) (hB : B ≤ w.heap.size) : OwnG T k (w.alloc (.cells #[] T)) B (.slice (some ⟨w.heap.size, 0, none⟩) 0 0) 0 [] :=
  World.ownsRow_lit w #[] 0 hB (Nat.zero_le _) (by simp)
theorem OwnG.len (h : OwnG T k w B v n zs) : zs.length = n * k := by have := h.1; simpa using this
theorem OwnG.form (h : OwnG T k w B v n zs) : ∃ a c, v = .slice a n c ∧ n ≤ c ∧ c ≤ maxLen ∧ Ints w a zs := by
  have hl := h.len
  rcases h.2 with ⟨rfl, h0⟩ | ⟨g, cap, cur, rfl, hb, hg, hn, hc, hs, ht⟩
  · refine ⟨none, 0, by rw [h0], by omega, Nat.zero_le _, .inl (List.eq_nil_of_length_eq_zero (by rw [hl, h0, Nat.zero_mul]))⟩
  · refine ⟨_, cap, rfl, hn, hc, .inr ⟨g, 0, rfl, fun i hi => ?_⟩⟩
    have h1 := World.ownsRow.cellAt h i (by omega)
    rw [Nat.zero_add, h1]
    simp [hi]
theorem OwnG.ints {m c : Nat} (h : OwnG T k w B (.slice a m c) n zs) : m = n ∧ Ints w a zs := by
  obtain ⟨a', c', e, _, _, hi⟩ := h.form
  simp only [Value.slice.injEq] at e
  obtain ⟨rfl, rfl, _⟩ := e
  exact ⟨rfl, hi⟩
theorem OwnG.alloc (h : OwnG T k w B v n zs) (o : Obj) : OwnG T k (w.alloc o) B v n zs := World.ownsRow.alloc h o
theorem OwnG.drw (h : OwnG T k w B v n zs) (d : Nat) : OwnG T k (drw w d) B v n zs := h
theorem OwnG.lt (h : OwnG T k w B v n zs) : ∀ g, v.ownBlock = some g → B ≤ g ∧ g < w.heap.size := World.ownsRow.lt h
theorem OwnG.more {B' : Nat} (h : OwnG T k w B v n zs) (hB : B' ≤ B) : OwnG T k w B' v n zs := by
  refine ⟨h.1, ?_⟩
  rcases h.2 with h0 | ⟨g, cap, cur, hv, hb, r⟩
  · exact .inl h0
  · exact .inr ⟨g, cap, cur, hv, by omega, r⟩
theorem OwnG.below (h : OwnG T k w B v n zs) (hb : Below w.heap.size w w') : OwnG T k w' B v n zs := by
  refine ⟨h.1, ?_⟩
  rcases h.2 with h0 | ⟨g, cap, cur, hv, hg, hc, r⟩
  · exact .inl h0
  · exact .inr ⟨g, cap, cur, hv, hg, by rw [hb.block g (Array.getElem?_eq_some_iff.1 hc).1]; exact hc, r⟩
theorem OwnG.plus (h : OwnG T k w B v n zs) (os : Array Obj) (d : Nat) : OwnG T k (plus w os d) B v n zs := h.below (below_plus (Below.refl _ _) os d)
/-- .. where a block below B alone has turned. -/
theorem OwnG.setb (h : OwnG T k w B v n zs) {r i : Nat} (hr : r < B) (u : Value) : OwnG T k (w.setCell ⟨r, i, none⟩ u) B v n zs := by
  refine ⟨h.1, ?_⟩
  rcases h.2 with h0 | ⟨g, cap, cur, hv, hg, hc, rr⟩
  · exact .inl h0
  · exact .inr ⟨g, cap, cur, hv, hg, by rw [Below.heap_setCell w ⟨r, i, none⟩ u g (by simp; omega)]; exact hc, rr⟩
theorem OwnG.step {w0 : World} (h : OwnG T k w B v n zs) (hg : w.grownBy w' v.ownBlock) (hB : B ≤ w.heap.size) (hb : Below B w0 w) : Below B w0 w' := hb.grown hg hB fun g hk => (h.lt g hk).1
theorem Ints.plus (h : Ints w a zs) (os : Array Obj) (d : Nat) : Ints (plus w os d) a zs := h.below (below_plus (Below.refl _ _) os d)
theorem Ints.alloc (h : Ints w a zs) (o : Obj) : Ints (w.alloc o) a zs := h.below (below_alloc (Below.refl _ _) o)
/-- Cell j is set as f says. -/
theorem OwnG.upd {g m c : Nat} {f : Nat → Int} {j : Nat} (h : OwnG T k w B (.slice (some ⟨g, 0, none⟩) m c) n (upd f zs j)) (hj : j < zs.length) :
    OwnG T k (w.setCell ⟨g, j, none⟩ (.int .i64 (f j))) B (.slice (some ⟨g, 0, none⟩) m c) n (Proofs.Ytfdpdhinigfpfaa.upd f zs (j + 1)) ∧ w.grownBy (w.setCell ⟨g, j, none⟩ (.int .i64 (f j))) (some g) := by
  obtain rfl := h.ints.1
  have := World.ownsRow.stored h j (.int .i64 (f j))
  refine ⟨?_, this.2⟩
  unfold OwnG
  rw [← upd_succ f zs j, List.map_set]
  exact this.1
theorem OwnG.cell {g m c j : Nat} (h : OwnG T k w B (.slice (some ⟨g, 0, none⟩) m c) n zs) (hj : j < zs.length) : w.cell? ⟨g, j, none⟩ = some (.int .i64 (zs.getD j 0)) := by
  obtain rfl := h.ints.1
  have h1 := World.ownsRow.cellAt h j (by rw [← h.len]; exact hj)
  rw [h1]
  simp [hj]
theorem OwnG.free {g m c : Nat} (h : OwnG T k w B (.slice (some ⟨g, 0, none⟩) m c) n zs) (j : Nat) : w.frozen? ⟨g, j, none⟩ = false := by
  obtain rfl := h.ints.1
  exact World.ownsRow.frozenAt h j
theorem grown_trans {w'' : World} {r : Option Nat} (h : w.grownBy w' r) (h' : w'.grownBy w'' r) : w.grownBy w'' r :=
  ⟨h'.os.trans h.os, h'.tape.trans h.tape, h'.output.trans h.output, Nat.le_trans h.size h'.size, fun g hg hne => (h'.block g (Nat.lt_of_lt_of_le hg h.size) hne).trans (h.block g hg hne)⟩
end

/-- All numbers below n have the property. -/
def allB (p : Nat → Bool) : Nat → Bool
  | 0 => true
  | n + 1 => allB p n && p n
theorem allB_t {p : Nat → Bool} : ∀ {n : Nat}, allB p n = true ↔ ∀ j, j < n → p j = true
  | 0 => by simp [allB]
  | n + 1 => by
    simp only [allB, Bool.and_eq_true, allB_t (n := n)]
    constructor
    · rintro ⟨h1, h2⟩ j hj
      by_cases h : j = n
      · subst h; exact h2
      · exact h1 j (by omega)
    · intro h
      exact ⟨fun j hj => h j (by omega), h n (by omega)⟩
theorem allB_f {p : Nat → Bool} {n j : Nat} (hj : j < n) (h : p j = false) : allB p n = false := by
  cases hc : allB p n with
  | false => rfl
  | true => rw [allB_t.1 hc j hj] at h; cases h

end Go.Proofs.Ytfdpdhinigfpfaa
