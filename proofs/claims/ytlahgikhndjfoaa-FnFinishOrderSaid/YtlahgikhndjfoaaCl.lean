/-
  Lists of claims (two rows of numbers each): what reads as one, what a call owns as one. Conditions: those that each theorem states.
-/
import Derived.Test.YtlahgikhndjfoaaZl
import Derived.Test.YtlahgikhndjfoaaNum0
import Derived.Deep.RegionHeld3
namespace Go.Proofs.Ytlahgikhndjfoaa
open Go.RowKit Go.ChangeShapes Go.WideShapes Go.Deep

theorem infoC : (Try.prog.info? 34).map (fun i => (i.zero, i.size, i.bytes)) = some (some (.agg #[.slice none 0 0, .slice none 0 0]), 2, 48) := by kernel_rfl

theorem Ints.take {w : World} {a : Option Addr} {zs : List Int} (h : Ints w a zs) (k : Nat) : Ints w a (zs.take k) := by
  rcases h with h | ⟨blk, off, ha, hc⟩
  · exact .inl (by rw [h, List.take_nil])
  · refine .inr ⟨blk, off, ha, fun i hi => ?_⟩
    simp at hi
    have h1 := hc i (by omega)
    rw [h1]
    simp only [List.getD_eq_getElem?_getD, List.getElem?_take, if_pos (show i < k by omega)]
theorem Own.plus {w : World} {B : Nat} {v : Value} {zs : List Int} (h : Own w B v zs) (os : Array Obj) (d : Nat) : Own (plus w os d) B v zs := h.below (below_plus (Below.refl _ _) os d)
theorem Own.setb {w : World} {B : Nat} {v : Value} {zs : List Int} (h : Own w B v zs) {r i : Nat} (hr : r < B) (u : Value) : Own (w.setCell ⟨r, i, none⟩ u) B v zs := ownsRow_setCell_below h hr u

/-- A value that reads as a row of numbers. -/
def RowV (w : World) (u : Value) (zs : List Int) : Prop := ∃ x c, u = .slice x zs.length c ∧ zs.length ≤ c ∧ c ≤ maxLen ∧ Ints w x zs
/-- A slice whose cells read as rows. -/
def Grid (w : World) (a : Option Addr) (rs : List (List Int)) : Prop :=
  rs = [] ∨ ∃ blk off, a = some ⟨blk, off, none⟩ ∧ ∀ i, i < rs.length → ∃ u, w.cell? ⟨blk, off + i, none⟩ = some u ∧ RowV w u (rs.getD i [])
/-- What claim i holds and needs. -/
def hold (rs : List (List Int)) (i : Nat) : List Int := rs.getD (i * 2) []
def need (rs : List (List Int)) (i : Nat) : List Int := rs.getD (i * 2 + 1) []

section
variable {w w' : World} {B : Nat} {u v : Value} {zs : List Int} {rs : List (List Int)} {a : Option Addr}
theorem RowV.below (h : RowV w u zs) (hb : Below w.heap.size w w') : RowV w' u zs := by
  obtain ⟨x, c, h1, h2, h3, h4⟩ := h
  exact ⟨x, c, h1, h2, h3, h4.below hb⟩
theorem Grid.below (h : Grid w a rs) (hb : Below w.heap.size w w') : Grid w' a rs := by
  rcases h with h | ⟨blk, off, ha, hc⟩
  · exact .inl h
  · refine .inr ⟨blk, off, ha, fun i hi => ?_⟩
    obtain ⟨u, h1, h2⟩ := hc i hi
    exact ⟨u, (hb.cell (p := ⟨blk, off + i, none⟩) (World.block_lt_of_cell? _ _ h1)).trans h1, h2.below hb⟩
theorem Grid.plus (h : Grid w a rs) (os : Array Obj) (d : Nat) : Grid (plus w os d) a rs := h.below (below_plus (Below.refl _ _) os d)
theorem Own.row (h : Own w B v zs) : RowV w v zs := by
  obtain ⟨a, c, h1, h2, h3, h4⟩ := h.form
  exact ⟨a, c, h1, h2, h3, h4⟩
/-- Claim i of a list that reads. -/
theorem Grid.claim (h : Grid w a rs) {n i : Nat} (hz : rs.length = n * 2) (hi : i < n) :
    ∃ blk off x1 c1 x2 c2, a = some ⟨blk, off, none⟩ ∧ blk < w.heap.size ∧ w.cell? ⟨blk, off + i * 2, none⟩ = some (.slice x1 (hold rs i).length c1) ∧ w.cell? ⟨blk, off + i * 2 + 1, none⟩ = some (.slice x2 (need rs i).length c2) ∧
      (hold rs i).length ≤ c1 ∧ c1 ≤ maxLen ∧ Ints w x1 (hold rs i) ∧ (need rs i).length ≤ c2 ∧ c2 ≤ maxLen ∧ Ints w x2 (need rs i) := by
  rcases h with h0 | ⟨blk, off, rfl, hc⟩
  · rw [h0] at hz; simp at hz; omega
  obtain ⟨u1, e1, x1, c1, rfl, l1, m1, r1⟩ := hc (i * 2) (by omega)
  obtain ⟨u2, e2, x2, c2, rfl, l2, m2, r2⟩ := hc (i * 2 + 1) (by omega)
  rw [← Nat.add_assoc] at e2
  exact ⟨blk, off, x1, c1, x2, c2, rfl, World.block_lt_of_cell? _ _ e1, e1, e2, l1, m1, r1, l2, m2, r2⟩
end

/-! ### what was handed in -/
theorem row_open {H : Type} {enc : TypeId × Value → H} {W : World} {fuel : Nat} {cs : List Value} {x : DataW H × List MemPlace}
    (h : DataW.trod enc Try.prog W 0 (fun _ => true) true fuel 24 cs = some x) : ∃ u zs, cs = [u] ∧ RowV W u zs := by
  rcases open_ints Try.underlying24 Try.underlying3 (by kernel_rfl) h with ⟨hcs, _⟩ | ⟨x, l, c, zs, hcs, _, hl, hm, hz, _, hcell, _⟩
  · exact ⟨_, [], hcs, none, 0, rfl, Nat.le_refl _, Nat.zero_le _, .inl rfl⟩
  · simp at hz
    have hlen : (zs.take l).length = l := by simp; omega
    refine ⟨_, zs.take l, hcs, some x, c, by rw [hlen], by rw [hlen]; exact hl, hm, ?_⟩
    by_cases h0 : l = 0
    · subst h0; exact .inl (by simp)
    · obtain ⟨blk, off, spot⟩ := x
      have hspot : spot = none := by simpa [Addr.add] using World.cell?_spot (hcell 0 (by omega))
      subst hspot
      refine Ints.take (.inr ⟨blk, off, rfl, fun i hi => ?_⟩) l
      rw [← addr_add]
      exact hcell i hi
/-- A list of numbers that was handed in. -/
theorem open_nums {H : Type} {enc : TypeId × Value → H} {W : World} {a : Option Addr} {n c : Nat} {d : DataW H} {p : List MemPlace}
    (h : DataW.Trod enc Try.prog W 0 (fun _ => true) true 24 (.slice a n c) d p) : n ≤ c ∧ c ≤ maxLen ∧ ∃ zs : List Int, zs.length = n ∧ Ints W a zs := by
  obtain ⟨fuel, hf⟩ := h
  obtain ⟨u, zs, hcs, x, c', hu, h1, h2, h3⟩ := row_open hf
  simp [Value.cells] at hcs
  subst hcs
  simp only [Value.slice.injEq] at hu
  obtain ⟨rfl, rfl, rfl⟩ := hu
  exact ⟨h1, h2, zs, rfl, h3⟩
theorem claim_open {H : Type} {enc : TypeId × Value → H} {W : World} {fuel : Nat} {cs : List Value} {x : DataW H × List MemPlace}
    (h : DataW.trod enc Try.prog W 0 (fun _ => true) true fuel 52 cs = some x) : ∃ u1 u2 z1 z2, cs = [u1, u2] ∧ RowV W u1 z1 ∧ RowV W u2 z2 := by
  obtain ⟨xs, n, _, _, hlen, hxs, hf⟩ := DataW.trod_struct Try.underlying52 h
  have h0 := hf 0 _ rfl
  have h1 := hf 1 _ rfl
  have c0 : Try.prog.cellsOf 24 = 1 := by kernel_rfl
  have c1 : Try.prog.cellsOf 52 = 2 := by kernel_rfl
  rw [c1] at hlen
  simp at hxs
  rw [List.getElem?_eq_getElem (by omega)] at h0 h1
  obtain ⟨u1, z1, e1, r1⟩ := row_open h0
  obtain ⟨u2, z2, e2, r2⟩ := row_open h1
  have e1 : List.take 1 (List.drop 0 cs) = [u1] := (congrArg (fun k => List.take k (List.drop 0 cs)) c0.symm).trans e1
  have e2 : List.take 1 (List.drop 1 cs) = [u2] := (congrArg (fun k => List.take k (List.drop 1 cs)) c0.symm).trans e2
  refine ⟨u1, u2, z1, z2, ?_, r1, r2⟩
  match cs, hlen with
  | [v1, v2], _ =>
    simp at e1 e2
    subst e1 e2
    rfl
/-- A list of claims that was handed in. -/
def GivenC (W : World) (a : Option Addr) (n c : Nat) : Prop := n ≤ c ∧ c ≤ maxLen ∧ ∃ rs : List (List Int), rs.length = n * 2 ∧ Grid W a rs
theorem open_claims {H : Type} {enc : TypeId × Value → H} {W : World} {a : Option Addr} {n c : Nat} {d : DataW H} {p : List MemPlace}
    (h : DataW.Trod enc Try.prog W 0 (fun _ => true) true 35 (.slice a n c) d p) : GivenC W a n c := by
  obtain ⟨fuel, hf⟩ := h
  have hC : Try.prog.cellsOf 52 = 2 := by kernel_rfl
  rcases open_slice Try.underlying35 hf with ⟨hcs, _⟩ | ⟨x, len, cap, m, n', D, Pl, hcs, hb, hl, hm, hmm, hx, hi⟩
  · simp [Value.cells] at hcs
    obtain ⟨rfl, rfl, rfl⟩ := hcs
    exact ⟨Nat.le_refl _, Nat.zero_le _, [], by simp, .inl rfl⟩
  · simp [Value.cells] at hcs
    obtain ⟨rfl, rfl, rfl⟩ := hcs
    simp at hmm
    refine ⟨hl, hm, ?_⟩
    have hall : ∀ i, ∃ f : Nat → Value × List Int, i < n → ∀ j, j < 2 → W.cell? ((x.add (i * 2)).add j) = some (f j).1 ∧ RowV W (f j).1 (f j).2 := by
      intro i
      by_cases hin : i < n
      · obtain ⟨cs', hc, htr⟩ := hi i (by omega)
        rw [hC] at hc
        obtain ⟨u1, u2, z1, z2, e1, r1, r2⟩ := claim_open htr
        obtain ⟨_, _, hat⟩ := World.cells?_some hc
        refine ⟨fun j => if j = 0 then (u1, z1) else (u2, z2), fun _ j hj => ?_⟩
        rw [hat j hj, e1]
        match j, hj with
        | 0, _ => exact ⟨rfl, r1⟩
        | 1, _ => exact ⟨rfl, r2⟩
      · exact ⟨fun _ => (undef, []), fun h => absurd h hin⟩
    obtain ⟨f, hfz⟩ := Classical.axiomOfChoice hall
    by_cases h0 : n = 0
    · subst h0; exact ⟨[], by simp, .inl rfl⟩
    · have hcell : ∀ j, j < n * 2 → W.cell? (x.add j) = some (f (j / 2) (j % 2)).1 ∧ RowV W (f (j / 2) (j % 2)).1 (f (j / 2) (j % 2)).2 := by
        intro j hj
        have h1 := hfz (j / 2) (by omega) (j % 2) (by omega)
        rw [Go.Deep.add_add, show j / 2 * 2 + j % 2 = j by omega] at h1
        exact h1
      obtain ⟨blk, off, spot⟩ := x
      have hspot : spot = none := by
        have h1 := (hcell 0 (by omega)).1
        simpa [Addr.add] using World.cell?_spot h1
      subst hspot
      refine ⟨(List.range (n * 2)).map fun j => (f (j / 2) (j % 2)).2, by simp, .inr ⟨blk, off, rfl, fun j hj => ?_⟩⟩
      simp at hj
      have h1 := hcell j hj
      rw [addr_add] at h1
      have hg : ((List.range (n * 2)).map fun j => (f (j / 2) (j % 2)).2).getD j [] = (f (j / 2) (j % 2)).2 := by simp [hj]
      rw [hg]
      exact ⟨_, h1⟩

/-! ### what a call owns -/
/-- A list of claims of the call's own, in blocks from B on. -/
def OwnC (w : World) (B : Nat) (v : Value) (n : Nat) (rs : List (List Int)) : Prop :=
  ∃ us : List Value, w.ownsRow B 34 2 v n us ∧ rs.length = n * 2 ∧ ∀ i, i < n * 2 → Own w B (us.getD i undef) (rs.getD i [])

theorem types_part {w : World} {B B' k k' n n' : Nat} {u v : Value} {xs ys : List Value} {T T' : TypeId} (hT : T ≠ T') (h : w.ownsRow B T k u n xs) (h' : w.ownsRow B' T' k' v n' ys) : u.ownBlock = none ∨ u.ownBlock ≠ v.ownBlock := by
  rcases h.2 with ⟨rfl, _⟩ | ⟨g, cap, cur, rfl, _, hg, _⟩
  · exact .inl rfl
  rcases h'.2 with ⟨rfl, _⟩ | ⟨g', cap', cur', rfl, _, hg', _⟩
  · exact .inr (by simp [Value.ownBlock])
  · right
    intro e
    simp [Value.ownBlock] at e
    subst e
    rw [hg] at hg'
    simp only [Option.some.injEq, Obj.cells.injEq] at hg'
    exact hT hg'.2.1
section
variable {w w' : World} {B : Nat} {u v : Value} {zs : List Int} {rs : List (List Int)} {a : Option Addr} {n m c : Nat}
/-- A row stays where a list of claims alone has turned. -/
theorem Own.beside {xs : List Value} {B' : Nat} (h : Own w B u zs) (h' : w.ownsRow B' 34 2 v n xs) (hg : w.grownBy w' v.ownBlock) : Own w' B u zs :=
  World.ownsRow.kept h hg (types_part (by decide) h h')
theorem OwnC.len (h : OwnC w B v n rs) : rs.length = n * 2 := by obtain ⟨_, _, h, _⟩ := h; exact h
theorem OwnC.nil (w : World) (B : Nat) : OwnC w B (.slice none 0 0) 0 [] := ⟨[], World.ownsRow_nil w B _ 2, rfl, fun i hi => by omega⟩
theorem OwnC.made (w : World) (B : Nat) (hB : B ≤ w.heap.size) : OwnC (w.alloc (.cells #[] 34)) B (.slice (some ⟨w.heap.size, 0, none⟩) 0 0) 0 [] :=
  ⟨[], World.ownsRow_lit w #[] 0 hB (Nat.zero_le _) (by simp), rfl, fun i hi => by omega⟩
theorem ownsRow_below {T k} {xs : List Value} (h : w.ownsRow B T k v n xs) (hb : Below w.heap.size w w') : w'.ownsRow B T k v n xs := by
  refine ⟨h.1, ?_⟩
  rcases h.2 with h0 | ⟨g, cap, cur, hv, hg, hc, r⟩
  · exact .inl h0
  · exact .inr ⟨g, cap, cur, hv, hg, by rw [hb.block g (Array.getElem?_eq_some_iff.1 hc).1]; exact hc, r⟩
theorem OwnC.below (h : OwnC w B v n rs) (hb : Below w.heap.size w w') : OwnC w' B v n rs := by
  obtain ⟨us, h1, h2, h3⟩ := h
  exact ⟨us, ownsRow_below h1 hb, h2, fun i hi => (h3 i hi).below hb⟩
theorem OwnC.plus (h : OwnC w B v n rs) (os : Array Obj) (d : Nat) : OwnC (plus w os d) B v n rs := h.below (below_plus (Below.refl _ _) os d)
theorem OwnC.alloc (h : OwnC w B v n rs) (o : Obj) : OwnC (w.alloc o) B v n rs := h.below ((Below.refl _ _).alloc (Nat.le_refl _) o)
theorem OwnC.form (h : OwnC w B v n rs) : ∃ a c, v = .slice a n c ∧ n ≤ c ∧ c ≤ maxLen ∧ Grid w a rs := by
  obtain ⟨us, h1, h2, h3⟩ := h
  have hl := h1.1
  rcases h1.2 with ⟨rfl, h0⟩ | ⟨g, cap, cur, rfl, hb, hg, hn, hc, hs, ht⟩
  · refine ⟨none, 0, by rw [h0], by omega, Nat.zero_le _, .inl (List.eq_nil_of_length_eq_zero (by rw [h2, h0, Nat.zero_mul]))⟩
  · refine ⟨_, cap, rfl, hn, hc, .inr ⟨g, 0, rfl, fun i hi => ?_⟩⟩
    have hc1 := World.ownsRow.cellAt h1 i (by omega)
    rw [Nat.zero_add, hc1]
    have hi' : i < us.length := by omega
    refine ⟨us.getD i undef, by simp [hi'], (h3 i (by omega)).row⟩
theorem OwnC.grid (h : OwnC w B (.slice a m c) n rs) : m = n ∧ Grid w a rs := by
  obtain ⟨a', c', e, _, _, hi⟩ := h.form
  simp only [Value.slice.injEq] at e
  obtain ⟨rfl, rfl, _⟩ := e
  exact ⟨rfl, hi⟩
end

end Go.Proofs.Ytlahgikhndjfoaa
