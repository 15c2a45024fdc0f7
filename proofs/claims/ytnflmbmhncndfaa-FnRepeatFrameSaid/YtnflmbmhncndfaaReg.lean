/-
  A region that draws its order, by the shapes of its values. No condition beyond those that each theorem states.
-/
import Derived.Test.YtnflmbmhncndfaaInv
import Derived.RegionTactic
import Derived.Below
namespace Go.Proofs.Ytnflmbmhncndfaa
open Go.RowKit

/-- What is known of a value: nothing; an int within bounds; a slice of n ints within bounds; the address of an int within bounds; the reader. -/
inductive Sh where
  | any
  | int (lo hi : Int)
  | sl (n : Nat) (lo hi : Int)
  | ptr (lo hi : Int)
  | rd
  | agg (l : List (Int × Int))
  | box (l : List (Int × Int))
  | res (r : Nat) (T : TypeId) (l : List (Int × Int))
  | val (v : Value)
  | list (a : Option Addr) (n c : Nat) (zs : List Int)

/-- Cell i of block k is an int within bounds. -/
def CellIn (w : World) (k i : Nat) (lo hi : Int) : Prop := ∃ x : Int, w.cell? ⟨k, i, none⟩ = some (.int .i64 x) ∧ lo ≤ x ∧ x ≤ hi

/-- The ints of a struct, each within its bounds. -/
def AggIn : List (Int × Int) → List Value → Prop
  | [], vs => vs = []
  | (lo, hi) :: l, vs => ∃ (x : Int) (vs' : List Value), vs = .int .i64 x :: vs' ∧ (lo ≤ x ∧ x ≤ hi) ∧ AggIn l vs'
/-- Cells of block k from i on, each within its bounds. -/
def CellsIn (w : World) (k : Nat) : Nat → List (Int × Int) → Prop
  | _, [] => True
  | i, (lo, hi) :: l => CellIn w k i lo hi ∧ CellsIn w k (i + 1) l
/-- Block r is n cells that can be written. -/
def ResHas (w : World) (r : Nat) (T : TypeId) (n : Nat) : Prop := ∃ cs, w.heap[r]? = some (.cells cs T (0, 0)) ∧ cs.size = n
/-- A block that is neither the reader's nor a result's. -/
def Off (b : Nat) (rs : List Nat) (k : Nat) : Prop := k ≠ b ∧ k ∉ rs

/-- A list of numbers that reads, off the reader and the results. -/
def ListOff (b : Nat) (rs : List Nat) (w : World) (a : Option Addr) (zs : List Int) : Prop :=
  zs = [] ∨ ∃ blk off, a = some ⟨blk, off, none⟩ ∧ Off b rs blk ∧ ∀ i, i < zs.length → w.cell? ⟨blk, off + i, none⟩ = some (.int .i64 (zs.getD i 0))

def Good (b : Nat) (rs : List Nat) (w : World) : Sh → Value → Prop
  | .any, _ => True
  | .int lo hi, v => ∃ x : Int, v = .int .i64 x ∧ lo ≤ x ∧ x ≤ hi
  | .sl n lo hi, v => ∃ k, v = .slice (some ⟨k, 0, none⟩) n n ∧ Off b rs k ∧ ∀ i, i < n → CellIn w k i lo hi
  | .ptr lo hi, v => ∃ k i, v = .pointer (some ⟨k, i, none⟩) ∧ Off b rs k ∧ CellIn w k i lo hi
  | .rd, v => v = .pointer (some ⟨b, 0, none⟩)
  | .agg l, v => ∃ vs, v = .agg ⟨vs⟩ ∧ AggIn l vs
  | .box l, v => ∃ k, v = .pointer (some ⟨k, 0, none⟩) ∧ Off b rs k ∧ CellsIn w k 0 l
  | .res r T l, v => v = .pointer (some ⟨r, 0, none⟩) ∧ r ∈ rs ∧ r ≠ b ∧ ResHas w r T l.length
  | .val u, v => v = u
  | .list a n c zs, v => v = .slice a n c ∧ ListOff b rs w a zs

/-- Blocks other than b and the results' are kept; the results' stay what they are. -/
def Kept (b : Nat) (rs : List Nat) (w w' : World) : Prop := (∀ k, k < w.heap.size → Off b rs k → w'.heap[k]? = w.heap[k]?) ∧ ∀ r T n, r ∈ rs → r ≠ b → ResHas w r T n → ResHas w' r T n

theorem CellIn.kept {b : Nat} {rs : List Nat} {w w' : World} {k i : Nat} {lo hi : Int} (hk : Kept b rs w w') (hb : Off b rs k) (h : CellIn w k i lo hi) : CellIn w' k i lo hi := by
  obtain ⟨x, h1, h2⟩ := h
  exact ⟨x, (World.cell?_of_block (w := w) (hk.1 k (World.block_lt_of_cell? _ _ h1) hb)).trans h1, h2⟩
theorem CellsIn.kept {b : Nat} {rs : List Nat} {w w' : World} {k : Nat} (hk : Kept b rs w w') (hb : Off b rs k) : ∀ {l : List (Int × Int)} {i : Nat}, CellsIn w k i l → CellsIn w' k i l
  | [], _, _ => trivial
  | (_, _) :: _, _, h => ⟨h.1.kept hk hb, CellsIn.kept hk hb h.2⟩

theorem ListOff.kept {b : Nat} {rs : List Nat} {w w' : World} {a : Option Addr} {zs : List Int} (hk : Kept b rs w w') (h : ListOff b rs w a zs) : ListOff b rs w' a zs := by
  rcases h with h | ⟨blk, off, h1, h2, h3⟩
  · exact .inl h
  · refine .inr ⟨blk, off, h1, h2, fun i hi => ?_⟩
    have := h3 i hi
    exact (World.cell?_of_block (w := w) (hk.1 blk (World.block_lt_of_cell? _ _ this) h2)).trans this

theorem Good.kept {b : Nat} {rs : List Nat} {w w' : World} {s : Sh} {v : Value} (hk : Kept b rs w w') (h : Good b rs w s v) : Good b rs w' s v := by
  cases s with
  | any => trivial
  | int lo hi => exact h
  | sl n lo hi =>
    obtain ⟨k, h1, h2, h3⟩ := h
    exact ⟨k, h1, h2, fun i hi => (h3 i hi).kept hk h2⟩
  | ptr lo hi =>
    obtain ⟨k, i, h1, h2, h3⟩ := h
    exact ⟨k, i, h1, h2, h3.kept hk h2⟩
  | rd => exact h
  | agg l => exact h
  | box l =>
    obtain ⟨k, h1, h2, h3⟩ := h
    exact ⟨k, h1, h2, h3.kept hk h2⟩
  | res r T l => exact ⟨h.1, h.2.1, h.2.2.1, hk.2 _ _ _ h.2.1 h.2.2.1 h.2.2.2⟩
  | val u => exact h
  | list a n c zs => exact ⟨h.1, h.2.kept hk⟩

theorem kept_set (b : Nat) (rs : List Nat) (w : World) (v : Value) (os : Array Obj) (d : Nat) : Kept b rs w (plus (w.setCell ⟨b, 1, none⟩ v) os d) := by
  have key : ∀ k, k < w.heap.size → k ≠ b → (plus (w.setCell ⟨b, 1, none⟩ v) os d).heap[k]? = w.heap[k]? := by
    intro k hk hb
    have : k < (w.setCell ⟨b, 1, none⟩ v).heap.size := by simpa using hk
    exact (plus_block this).trans (Below.heap_setCell _ _ _ _ hb)
  refine ⟨fun k hk hb => key k hk hb.1, fun r T n _ hr ⟨cs, h, hn⟩ => ⟨cs, (key r (Array.getElem?_eq_some_iff.1 h).1 hr).trans h, hn⟩⟩
theorem Kept.trans {b : Nat} {rs : List Nat} {w w' w'' : World} (h : Kept b rs w w') (h' : Kept b rs w' w'') (hs : w.heap.size ≤ w'.heap.size) : Kept b rs w w'' :=
  ⟨fun k hk hb => (h'.1 k (Nat.lt_of_lt_of_le hk hs) hb).trans (h.1 k hk hb), fun r T n hr hb hh => h'.2 r T n hr hb (h.2 r T n hr hb hh)⟩

/-- What an operation reads. -/
def readsOf (o : Oper) : List Nat := o.op.operands.toList.filterMap fun | .tmp t => some t | _ => none

/-- An operation takes good values to a good value, and the reader on by cost at most. -/
def Steps (P : Program) (b : Nat) (rs : List Nat) (c : Option Addr × Nat × Nat) (cost : Int) (A : Nat → Sh) (o : Oper) : Prop :=
  ∀ (a : Act) (w : World) (q : Int) (K : Act → World → Prop) (Q : Exit → Act → World → Prop),
    (∀ t ∈ readsOf o, Good b rs w (A t) (a.tmps.getD t undef)) → Rd w b c.1 c.2.1 c.2.2 q → (∀ r ∈ rs, r < w.heap.size) → 0 ≤ q → q ≤ 900000 →
    (∀ v q' os d, q ≤ q' → q' ≤ q + cost → (∀ s, o.dst = some s → Good b rs (plus (w.setCell ⟨b, 1, none⟩ (.int .i64 q')) os d) (A s) v) → K (a.put o.dst v) (plus (w.setCell ⟨b, 1, none⟩ (.int .i64 q')) os d)) →
    o.wp P a w K Q

/-- Where an operation stores: the result's block and the bounds. -/
def storesTo (A : Nat → Sh) (o : Oper) : Option (Nat × TypeId × List (Int × Int)) :=
  match o.op with
  | .store _ (.tmp t) _ => match A t with
    | .res r T l => some (r, T, l)
    | _ => none
  | _ => none

/-- A store of a good struct into a result's block. -/
def Stores (P : Program) (b : Nat) (rs : List Nat) (A : Nat → Sh) (o : Oper) : Prop :=
  ∃ r T l, storesTo A o = some (r, T, l) ∧ ∀ (a : Act) (w : World) (K : Act → World → Prop) (Q : Exit → Act → World → Prop),
    (∀ t ∈ readsOf o, Good b rs w (A t) (a.tmps.getD t undef)) →
    (∀ w', w.grownBy w' (some r) → ResHas w' r T l.length → CellsIn w' r 0 l → r ∈ rs → r ≠ b → K (a.put o.dst undef) w') → o.wp P a w K Q

/-- What the region's text must show: no guards; each reads what stands ready; what an operation waits for stands ahead of it. -/
def wellDrawn (md : Region.Mode) (ops : Array Oper) : Bool :=
  (List.range ops.size).all fun i =>
    match ops[i]? with
    | none => false
    | some o => o.guard.isNone && (o.after.all fun e => !Region.binds md e || decide (e.on < i)) &&
      (List.range ops.size).all fun j =>
        match ops[j]? with
        | none => false
        | some oj => (i == j || oj.dst.isNone || oj.dst != o.dst) && ((readsOf o).all fun t => oj.dst != some t || (o.after.any fun e => Region.binds md e && e.on == j))

theorem wellDrawn_op {md : Region.Mode} {ops : Array Oper} (h : wellDrawn md ops = true) {i : Nat} {o : Oper} (ho : ops[i]? = some o) :
    o.guard = none ∧ (∀ e ∈ o.after, Region.binds md e = true → e.on < i) ∧
      ∀ (j : Nat) (oj : Oper), ops[j]? = some oj → (i = j ∨ oj.dst = none ∨ oj.dst ≠ o.dst) ∧ ∀ t ∈ readsOf o, oj.dst = some t → ∃ e ∈ o.after, Region.binds md e = true ∧ e.on = j := by
  have hi : i < ops.size := (Array.getElem?_eq_some_iff.1 ho).1
  have h1 := List.all_eq_true.1 h i (List.mem_range.2 hi)
  rw [ho] at h1
  simp only [Bool.and_eq_true] at h1
  obtain ⟨⟨h2, h4⟩, h5⟩ := h1
  refine ⟨by simpa using h2, fun e he hb => ?_, fun j oj hj => ?_⟩
  · obtain ⟨k, hk, rfl⟩ := Array.mem_iff_getElem.1 he
    have := Array.all_eq_true.1 h4 k hk
    simp only [Bool.or_eq_true, Bool.not_eq_true', decide_eq_true_eq] at this
    rcases this with h | h
    · rw [hb] at h; cases h
    · exact h
  · have hjl : j < ops.size := (Array.getElem?_eq_some_iff.1 hj).1
    have h6 := List.all_eq_true.1 h5 j (List.mem_range.2 hjl)
    rw [hj] at h6
    simp only [Bool.and_eq_true, Bool.or_eq_true, beq_iff_eq, bne_iff_ne, Option.isNone_iff_eq_none] at h6
    refine ⟨?_, fun t ht hd => ?_⟩
    · rcases h6.1 with (h | h) | h
      · exact .inl h
      · exact .inr (.inl h)
      · exact .inr (.inr h)
    have h7 := List.all_eq_true.1 h6.2 t ht
    simp only [Bool.or_eq_true, bne_iff_ne] at h7
    rcases h7 with h | h
    · exact absurd hd h
    · obtain ⟨e, he, h8⟩ := Array.any_eq_true'.1 h
      simp only [Bool.and_eq_true, beq_iff_eq] at h8
      exact ⟨e, he, h8.1, h8.2⟩

theorem getD_set {α : Type} (xs : Array α) (i j : Nat) (v d : α) : (xs.setIfInBounds i v).getD j d = if i = j ∧ i < xs.size then v else xs.getD j d := by
  simp only [Array.getD_eq_getD_getElem?, Array.getElem?_setIfInBounds]
  by_cases h : i = j
  · subst h
    by_cases h1 : i < xs.size
    · simp [h1]
    · simp [h1]
  · simp [h]

/-- w is W with new blocks and with turned results. -/
structure Near (rs : List Nat) (W w : World) : Prop where
  os : w.os = W.os
  tape : w.tape = W.tape
  output : w.output = W.output
  size : W.heap.size ≤ w.heap.size
  block : ∀ k, k < W.heap.size → k ∉ rs → w.heap[k]? = W.heap[k]?
theorem Near.refl (rs : List Nat) (W : World) : Near rs W W := ⟨rfl, rfl, rfl, Nat.le_refl _, fun _ _ _ => rfl⟩
theorem Near.below {rs : List Nat} {W w : World} {B : Nat} (h : Near rs W w) (hB : B ≤ W.heap.size) (hr : ∀ r ∈ rs, B ≤ r) : Below B W w :=
  ⟨h.os, h.tape, h.output, h.size, fun k hk => h.block k (by omega) (fun hm => by have := hr k hm; omega)⟩
theorem set_congr {w v : World} {b i : Nat} {u : Value} (h : w.heap[b]? = v.heap[b]?) : (w.setCell ⟨b, i, none⟩ u).heap[b]? = (v.setCell ⟨b, i, none⟩ u).heap[b]? := by
  simp [World.setCell, Array.getElem?_modify, h]
theorem Near.set {rs : List Nat} {w0 w : World} {b : Nat} {q : Value} (h : Near rs (w0.setCell ⟨b, 1, none⟩ q) w) (hb : b < w0.heap.size) (hbr : b ∉ rs) (q' : Value) (os : Array Obj) (d : Nat) :
    Near rs (w0.setCell ⟨b, 1, none⟩ q') (plus (w.setCell ⟨b, 1, none⟩ q') os d) := by
  have hs := h.size
  simp only [World.size_setCell] at hs
  refine ⟨h.os, h.tape, h.output, by simp [plus]; omega, fun k hk hr => ?_⟩
  simp only [World.size_setCell] at hk
  rw [plus_block (by simp; omega)]
  by_cases hkb : k = b
  · subst hkb
    rw [set_congr (h.block k (by simpa using hk) hr), setCell_again]
  · rw [Below.heap_setCell _ ⟨b, 1, none⟩ _ _ hkb, Below.heap_setCell _ ⟨b, 1, none⟩ _ _ hkb, h.block k (by simpa using hk) hr]
    exact Below.heap_setCell _ ⟨b, 1, none⟩ _ _ hkb
theorem Near.grown {rs : List Nat} {W w w' : World} {r : Nat} (h : Near rs W w) (hg : w.grownBy w' (some r)) (hr : r ∈ rs) : Near rs W w' :=
  ⟨hg.os.trans h.os, hg.tape.trans h.tape, hg.output.trans h.output, Nat.le_trans h.size hg.size, fun k hk hkr =>
    (hg.block k (Nat.lt_of_lt_of_le hk h.size) (fun e => hkr (by injection e with e; rw [e]; exact hr))).trans (h.block k hk hkr)⟩

/-- The bytes lie off the results. -/
def BytesOff (rs : List Nat) (a : Option Addr) (n : Nat) : Prop := n = 0 ∨ ∃ blk off, a = some ⟨blk, off, none⟩ ∧ blk ∉ rs
theorem bytesOff {w : World} {b : Nat} {a : Option Addr} {n : Nat} {rs : List Nat} (h : Bytes w b a n) (hr : ∀ r ∈ rs, w.heap.size ≤ r) : BytesOff rs a n := by
  rcases h with h | ⟨blk, off, ha, hb, hz⟩
  · exact .inl h
  · by_cases hn : n = 0
    · exact .inl hn
    · obtain ⟨z, _, _, hc⟩ := hz 0 (by omega)
      have hlt := World.block_lt_of_cell? _ _ hc
      exact .inr ⟨blk, off, ha, fun hm => by have := hr blk hm; simp only at hlt; omega⟩
theorem bytesOff_of {W : World} {b : Nat} {a : Option Addr} {n : Nat} {rs : List Nat} (h : Bytes W b a n) (hr : ∀ r ∈ rs, ∃ cs e f, W.heap[r]? = some (.cells cs e f) ∧ ∀ v ∈ cs.toList, ∀ z, v ≠ .int .u8 z) : BytesOff rs a n := by
  rcases h with h | ⟨blk, off, ha, hb, hz⟩
  · exact .inl h
  · by_cases hn : n = 0
    · exact .inl hn
    · obtain ⟨z, _, _, hc⟩ := hz 0 (by omega)
      refine .inr ⟨blk, off, ha, fun hm => ?_⟩
      obtain ⟨cs, e, f, hh, hv⟩ := hr blk hm
      simp [World.cell?, hh] at hc
      exact hv _ (Array.mem_toList_iff.2 (Array.mem_of_getElem? hc)) z rfl
theorem bytesOff_none {a : Option Addr} {n : Nat} {w : World} {b : Nat} (h : Bytes w b a n) : BytesOff [] a n := by
  rcases h with h | ⟨blk, off, ha, _⟩
  · exact .inl h
  · exact .inr ⟨blk, off, ha, by simp⟩
theorem Rd.grown {w w' : World} {b : Nat} {a : Option Addr} {n c : Nat} {q : Int} {r : Nat} {rs : List Nat} (h : Rd w b a n c q) (hg : w.grownBy w' (some r)) (hr : r ∈ rs) (hb : r ≠ b) (ho : BytesOff rs a n) : Rd w' b a n c q := by
  have hbb : w'.heap[b]? = w.heap[b]? := hg.block b h.lt (fun e => hb (by injection e with e; exact e.symm))
  refine ⟨(World.cell?_of_block (w := w) hbb).trans h.code, (World.cell?_of_block (w := w) hbb).trans h.at_, (World.frozen?_of_block (w := w) hbb).trans h.free, h.short, ?_⟩
  rcases ho with h0 | ⟨blk, off, ha, hoff⟩
  · exact .inl h0
  · rcases h.bytes with h0 | ⟨blk', off', ha', hb', hz⟩
    · exact .inl h0
    · rw [ha] at ha'
      simp only [Option.some.injEq, Addr.mk.injEq, and_true] at ha'
      obtain ⟨rfl, rfl⟩ := ha'
      refine .inr ⟨blk, off, ha, hb', fun i hi => ?_⟩
      obtain ⟨z, z0, z1, hc⟩ := hz i hi
      exact ⟨z, z0, z1, (World.cell?_of_block (w := w) (hg.block blk (World.block_lt_of_cell? _ _ hc) (fun e => hoff (by injection e with e; rw [e]; exact hr)))).trans hc⟩

theorem CellsIn.block {w w' : World} {k : Nat} (h : w'.heap[k]? = w.heap[k]?) : ∀ {l : List (Int × Int)} {i : Nat}, CellsIn w k i l → CellsIn w' k i l
  | [], _, _ => trivial
  | (_, _) :: _, _, ⟨⟨x, h1, h2⟩, h3⟩ => ⟨⟨x, (World.cell?_of_block (w := w) h).trans h1, h2⟩, CellsIn.block h h3⟩
theorem kept_grown {b : Nat} {rs : List Nat} {w w' : World} {r n : Nat} {T : TypeId} (hg : w.grownBy w' (some r)) (hr : r ∈ rs) (h : ResHas w r T n) (h' : ResHas w' r T n) : Kept b rs w w' := by
  refine ⟨fun k hk hb => hg.block k hk (fun e => hb.2 (by injection e with e; rw [e]; exact hr)), fun r' T' n' _ _ hh => ?_⟩
  by_cases e : r' = r
  · subst e
    obtain ⟨cs, h1, h2⟩ := h
    obtain ⟨cs', h3, h4⟩ := hh
    rw [h1] at h3
    simp only [Option.some.injEq, Obj.cells.injEq, and_true] at h3
    rw [← h4, ← h3.1, ← h3.2, h2]
    exact h'
  · obtain ⟨cs, h1, h2⟩ := hh
    exact ⟨cs, (hg.block r' (Array.getElem?_eq_some_iff.1 h1).1 (fun e' => e (by injection e'))).trans h1, h2⟩

/-- What holds when some operations have come up. -/
structure Come (b : Nat) (rs : List Nat) (c : Option Addr × Nat × Nat) (cost : Int) (A : Nat → Sh) (ops : Array Oper) (a0 : Act) (w0 : World) (p : Int) (listed : Array Bool) (a : Act) (w : World) : Prop where
  size : listed.size = ops.size
  defers : a.defers = a0.defers
  tmps : a.tmps.size = a0.tmps.size
  still : ∀ t, (∀ (j : Nat) (o : Oper), ops[j]? = some o → listed.getD j false = true → o.dst ≠ some t) → a.tmps.getD t undef = a0.tmps.getD t undef
  good : ∀ (j : Nat) (o : Oper) (d : Nat), ops[j]? = some o → listed.getD j false = true → o.dst = some d → Good b rs w (A d) (a.tmps.getD d undef)
  stored : ∀ (j : Nat) (o : Oper) (r : Nat) (T : TypeId) (l : List (Int × Int)), ops[j]? = some o → listed.getD j false = true → storesTo A o = some (r, T, l) → CellsIn w r 0 l ∧ ResHas w r T l.length ∧ r ∈ rs ∧ r ≠ b
  pre : Kept b rs w0 w
  world : ∃ q, Near rs (w0.setCell ⟨b, 1, none⟩ (.int .i64 q)) w ∧ Rd w b c.1 c.2.1 c.2.2 q ∧ p ≤ q ∧ q + cost * leftOver listed ≤ p + cost * ops.size

theorem storesTo_dst {A : Nat → Sh} {o : Oper} {r : Nat} {T : TypeId} {l : List (Int × Int)} (h : storesTo A o = some (r, T, l)) : ∃ t x u, o.op = .store u (.tmp t) x := by
  unfold storesTo at h
  split at h
  · rename_i t x u ho; exact ⟨x, u, t, ho⟩
  · cases h

theorem region_drawn {P : Program} {md : Region.Mode} {ops : Array Oper} {Q : Exit → Act → World → Prop} (b : Nat) (rs : List Nat) (c : Option Addr × Nat × Nat) (cost : Int) (A : Nat → Sh)
    (hsteps : ∀ (i : Nat) (o : Oper), ops[i]? = some o → (∃ d, o.dst = some d) ∧ Steps P b rs c cost A o ∧ storesTo A o = none ∨ o.dst = none ∧ Stores P b rs A o) (hwell : wellDrawn md ops = true)
    (hsep : ops.toList.Pairwise fun o o' => ∀ x y, storesTo A o = some x → storesTo A o' = some y → x.1 ≠ y.1)
    (a0 : Act) (w0 : World) (p : Int) (hr : Rd w0 b c.1 c.2.1 c.2.2 p) (hbr : b ∉ rs) (hrl : ∀ r ∈ rs, r < w0.heap.size) (hoff : BytesOff rs c.1 c.2.1) (hp : 0 ≤ p) (hc : 0 ≤ cost) (hfit : p + cost * ops.size ≤ 900000)
    (hpre : ∀ t, (∀ (j : Nat) (o : Oper), ops[j]? = some o → o.dst ≠ some t) → Good b rs w0 (A t) (a0.tmps.getD t undef))
    (hdst : ∀ (j : Nat) (o : Oper) (d : Nat), ops[j]? = some o → o.dst = some d → d < a0.tmps.size)
    (hQ : ∀ a q w, p ≤ q → q ≤ p + cost * ops.size → a.defers = a0.defers → a.tmps.size = a0.tmps.size → Near rs (w0.setCell ⟨b, 1, none⟩ (.int .i64 q)) w → Rd w b c.1 c.2.1 c.2.2 q → Kept b rs w0 w →
      (∀ t, (∀ (j : Nat) (o : Oper), ops[j]? = some o → o.dst ≠ some t) → a.tmps.getD t undef = a0.tmps.getD t undef) →
      (∀ (j : Nat) (o : Oper) (s : Nat), ops[j]? = some o → o.dst = some s → Good b rs w (A s) (a.tmps.getD s undef)) →
      (∀ (j : Nat) (o : Oper) (r : Nat) (T : TypeId) (l : List (Int × Int)), ops[j]? = some o → storesTo A o = some (r, T, l) → CellsIn w r 0 l ∧ ResHas w r T l.length) → Q .normal a w) :
    wpAny P md ops Q ops.size (Array.replicate ops.size false) a0 w0 := by
  refine wpAny_inv (Come b rs c cost A ops a0 w0 p) ?_ ?_ ops.size _ a0 w0 ?_ ?_
  · intro listed a w i hI hi
    obtain ⟨hil, hif, hia⟩ := ready_mem hi
    have ho : ops[i]? = some ops[i] := Array.getElem?_eq_getElem hil
    generalize ops[i] = o at ho
    obtain ⟨hg, hon, hothers⟩ := wellDrawn_op hwell ho
    rw [ho] at hia
    simp only [Option.map_some, Option.getD_some] at hia
    have hafter : ∀ e ∈ o.after, Region.binds md e = true → listed.getD e.on false = true := by
      intro e he hb
      obtain ⟨k, hk, rfl⟩ := Array.mem_iff_getElem.1 he
      have := Array.all_eq_true.1 hia k hk
      simp only [Bool.or_eq_true, Bool.not_eq_true'] at this
      rcases this with h | h
      · rw [hb] at h; cases h
      · exact h
    have hsi : listed[i]? = some false := by
      rw [Array.getD_eq_getD_getElem?] at hif
      cases hcc : listed[i]? with
      | none => rw [hcc] at hif; simp at hif
      | some x => rw [hcc] at hif; simp at hif; rw [hif]
    have hless := leftOver_set hsi
    obtain ⟨q, hnear, hrd, hq0, hq1⟩ := hI.world
    have hcl : 0 ≤ cost * ((leftOver (listed.setIfInBounds i true) : Nat) : Int) := Int.mul_nonneg hc (by omega)
    have hce : cost * ((leftOver listed : Nat) : Int) = cost * ((leftOver (listed.setIfInBounds i true) : Nat) : Int) + cost := by
      rw [← hless]; push_cast; rw [Int.mul_add, Int.mul_one]
    have hsz : w0.heap.size ≤ w.heap.size := by have := hnear.size; simpa using this
    have hw : Region.wanted o (yielded ops a.tmps) = true := by simp [Region.wanted, hg]
    have hreads : ∀ t ∈ readsOf o, Good b rs w (A t) (a.tmps.getD t undef) := by
      intro t ht
      by_cases hx : ∃ (j : Nat) (oj : Oper), ops[j]? = some oj ∧ oj.dst = some t
      · obtain ⟨j, oj, hj, hjt⟩ := hx
        obtain ⟨e, he, hb, rfl⟩ := (hothers j oj hj).2 t ht hjt
        exact hI.good _ oj t hj (hafter e he hb) hjt
      · have hx' : ∀ (j : Nat) (o : Oper), ops[j]? = some o → o.dst ≠ some t := fun j oj hj h => hx ⟨j, oj, hj, h⟩
        rw [hI.still t (fun j o hj _ => hx' j o hj)]
        exact (hpre t hx').kept hI.pre
    unfold wpOp
    rw [ho]
    simp only [hw, if_true]
    rcases hsteps i o ho with ⟨⟨d, hd⟩, hstep, hnst⟩ | ⟨hd, r, T, l, hst, hstore⟩
    · refine .inl (hstep a _ q _ Q hreads hrd (fun r hr => Nat.lt_of_lt_of_le (hrl r hr) hsz) (by omega) (by omega) (fun v q' os' d' h0 h1 hv => ?_))
      have hkept := kept_set b rs w (.int .i64 q') os' d'
      have hdl := hdst i o d ho hd
      have hput : a.put o.dst v = { a with tmps := a.tmps.setIfInBounds d v } := by rw [hd]; rfl
      refine ⟨by simpa using hI.size, by rw [hput]; exact hI.defers, by rw [hput]; simpa using hI.tmps, fun t ht => ?_, fun j oj s hj hl hs => ?_, fun j oj r T l hj hl hs => ?_, hI.pre.trans hkept hsz,
        ⟨q', hnear.set hr.lt hbr _ os' d', (hrd.set q').plus os' d', by omega, by omega⟩⟩
      · have hne : d ≠ t := by
          intro h
          refine ht i o ho ?_ (by rw [hd, h])
          rw [getD_set, if_pos ⟨rfl, (Array.getElem?_eq_some_iff.1 hsi).1⟩]
        rw [hput]
        show (a.tmps.setIfInBounds d v).getD t undef = _
        rw [getD_set, if_neg (fun h => hne h.1)]
        refine hI.still t (fun j oj hj hl => ht j oj hj ?_)
        rw [getD_set]; split
        · rfl
        · exact hl
      · rw [hput]
        show Good b rs _ (A s) ((a.tmps.setIfInBounds d v).getD s undef)
        by_cases hij : i = j
        · subst hij
          have : oj = o := Option.some.inj (hj.symm.trans ho)
          subst this
          have : d = s := Option.some.inj (hd.symm.trans hs)
          subst this
          rw [getD_set, if_pos ⟨rfl, by rw [hI.tmps]; exact hdl⟩]
          exact hv d hd
        · have hne : d ≠ s := by
            intro h
            rcases (hothers j oj hj).1 with h1 | h1 | h1
            · exact hij h1
            · rw [hs] at h1; cases h1
            · exact h1 (by rw [hs, hd, h])
          rw [getD_set, if_neg (fun h => hne h.1)]
          rw [getD_set, if_neg (fun h => hij h.1)] at hl
          exact (hI.good j oj s hj hl hs).kept hkept
      · by_cases hij : i = j
        · subst hij
          have : oj = o := Option.some.inj (hj.symm.trans ho)
          subst this
          rw [hnst] at hs; cases hs
        · rw [getD_set, if_neg (fun h => hij h.1)] at hl
          obtain ⟨h1, h2, h3, h4⟩ := hI.stored j oj r T l hj hl hs
          obtain ⟨cs, h5, h6⟩ := h2
          have hblk : (plus (w.setCell ⟨b, 1, none⟩ (.int .i64 q')) os' d').heap[r]? = w.heap[r]? := by
            rw [plus_block (by simpa using (Array.getElem?_eq_some_iff.1 h5).1), Below.heap_setCell _ ⟨b, 1, none⟩ _ _ h4]
          exact ⟨h1.block hblk, ⟨cs, hblk.trans h5, h6⟩, h3, h4⟩
    · refine .inl (hstore a w _ Q hreads (fun w' hgr hres hcells hrrs hrb => ?_))
      have hput : a.put o.dst undef = a := by rw [hd]; rfl
      have hres0 : ResHas w r T l.length := by
        obtain ⟨t, x, u, hop⟩ := storesTo_dst hst
        have := hreads t (by unfold readsOf; rw [hop]; simp [Op.operands])
        unfold storesTo at hst
        rw [hop] at hst
        simp only at hst
        split at hst
        · rename_i r' T' l' hA
          simp only [Option.some.injEq, Prod.mk.injEq] at hst
          obtain ⟨rfl, rfl, rfl⟩ := hst
          rw [hA] at this
          exact this.2.2.2
        · cases hst
      have hkept : Kept b rs w w' := kept_grown hgr hrrs hres0 hres
      rw [hput]
      refine ⟨by simpa using hI.size, hI.defers, hI.tmps, fun t ht => ?_, fun j oj s hj hl hs => ?_, fun j oj r' T' l' hj hl hs => ?_, hI.pre.trans hkept hsz,
        ⟨q, hnear.grown hgr hrrs, hrd.grown hgr hrrs hrb hoff, by omega, by omega⟩⟩
      · refine hI.still t (fun j oj hj hl => ht j oj hj ?_)
        rw [getD_set]; split
        · rfl
        · exact hl
      · by_cases hij : i = j
        · subst hij
          have : oj = o := Option.some.inj (hj.symm.trans ho)
          subst this
          rw [hd] at hs; cases hs
        · rw [getD_set, if_neg (fun h => hij h.1)] at hl
          exact (hI.good j oj s hj hl hs).kept hkept
      · by_cases hij : i = j
        · subst hij
          have : oj = o := Option.some.inj (hj.symm.trans ho)
          subst this
          rw [hst] at hs
          simp only [Option.some.injEq, Prod.mk.injEq] at hs
          obtain ⟨rfl, rfl, rfl⟩ := hs
          exact ⟨hcells, hres, hrrs, hrb⟩
        · rw [getD_set, if_neg (fun h => hij h.1)] at hl
          obtain ⟨h1, h2, h3, h4⟩ := hI.stored j oj r' T' l' hj hl hs
          have hne : r' ≠ r := by
            have hp := List.pairwise_iff_getElem.1 hsep
            have hil' : i < ops.toList.length := by simpa using hil
            have hjl' : j < ops.toList.length := by simpa using (Array.getElem?_eq_some_iff.1 hj).1
            have ei : ops.toList[i] = o := by have := (Array.getElem?_eq_some_iff.1 ho).2; simpa using this
            have ej : ops.toList[j] = oj := by have := (Array.getElem?_eq_some_iff.1 hj).2; simpa using this
            rcases Nat.lt_or_gt_of_ne hij with hlt | hlt
            · have := hp i j hil' hjl' hlt
              rw [ei, ej] at this
              exact (this _ _ hst hs).symm
            · have := hp j i hjl' hil' hlt
              rw [ei, ej] at this
              exact this _ _ hs hst
          obtain ⟨cs, h5, h6⟩ := h2
          have hblk : w'.heap[r']? = w.heap[r']? := hgr.block r' (Array.getElem?_eq_some_iff.1 h5).1 (fun e => hne (by injection e))
          exact ⟨h1.block hblk, ⟨cs, hblk.trans h5, h6⟩, h3, h4⟩
  · intro listed a w hI hnone
    have hall : ∀ i, i < ops.size → listed.getD i false = true := by
      intro i
      induction i using Nat.strongRecOn with
      | _ i ih =>
        intro hi
        cases hl : listed.getD i false with
        | true => rfl
        | false =>
          exfalso
          have ho : ops[i]? = some ops[i] := Array.getElem?_eq_getElem hi
          obtain ⟨_, hon, _⟩ := wellDrawn_op hwell ho
          have : i ∈ Region.ready md ops listed := by
            unfold Region.ready
            rw [List.mem_filter]
            refine ⟨List.mem_range.2 hi, ?_⟩
            have hlt : listed.getD i true = false := by
              rw [Array.getD_eq_getD_getElem?] at hl ⊢
              have : i < listed.size := by rw [hI.size]; exact hi
              rw [Array.getElem?_eq_getElem this] at hl ⊢
              simpa using hl
            rw [hlt, ho]
            simp only [Bool.not_false, Option.map_some, Option.getD_some, Bool.true_and, Array.all_eq_true]
            intro k hk
            cases hb : Region.binds md ops[i].after[k] with
            | false => rfl
            | true =>
              have h1 := hon _ (Array.getElem_mem hk) hb
              rw [ih _ h1 (by omega)]
              rfl
          rw [hnone] at this
          cases this
    obtain ⟨q, hnear, hrd, hq0, hq1⟩ := hI.world
    have hcl : 0 ≤ cost * ((leftOver listed : Nat) : Int) := Int.mul_nonneg hc (by omega)
    exact hQ a q w hq0 (by omega) hI.defers hI.tmps hnear hrd hI.pre (fun t ht => hI.still t (fun j o hj _ => ht j o hj)) (fun j o s hj hs => hI.good j o s hj (hall j (Array.getElem?_eq_some_iff.1 hj).1) hs)
      (fun j o r T l hj hs => by obtain ⟨h1, h2, _⟩ := hI.stored j o r T l hj (hall j (Array.getElem?_eq_some_iff.1 hj).1) hs; exact ⟨h1, h2⟩)
  · unfold leftOver
    refine Nat.le_trans (List.length_filter_le _ _) ?_
    simp
  · refine ⟨by simp, rfl, rfl, fun _ _ => rfl, fun j o d hj hl => ?_, fun j o r T l hj hl => ?_, ⟨fun _ _ _ => rfl, fun _ _ _ _ _ h => h⟩, ⟨p, ?_, hr, by omega, ?_⟩⟩
    · exfalso
      rw [Array.getD_eq_getD_getElem?, Array.getElem?_replicate] at hl
      split at hl <;> simp at hl
    · exfalso
      rw [Array.getD_eq_getD_getElem?, Array.getElem?_replicate] at hl
      split at hl <;> simp at hl
    · rw [setCell_self hr.at_]
      exact Near.refl _ _
    · have : ((leftOver (Array.replicate ops.size false) : Nat) : Int) ≤ ops.size := by
        have : leftOver (Array.replicate ops.size false) ≤ ops.size := by
          unfold leftOver
          refine Nat.le_trans (List.length_filter_le _ _) ?_
          simp
        omega
      have := Int.mul_le_mul_of_nonneg_left this hc
      omega

/-- An array of known size, written out. -/
theorem lit_of_size (xs : Array Value) (n : Nat) (h : xs.size = n) : xs = ((List.range n).map fun i => xs.getD i undef).toArray := by
  apply Array.ext
  · simp [h]
  · intro i h1 h2
    simp [Array.getD, h1]
theorem heap_top {W : World} {o : Obj} {k : Nat} (h : k = W.heap.size) : (W.alloc o).heap[k]? = some o := by subst h; exact heap_alloc_new W o
theorem heap_under {W : World} {o : Obj} {k : Nat} (h : k < W.heap.size) : (W.alloc o).heap[k]? = W.heap[k]? := Below.heap_alloc W o k h
/-- The reader's place set anew on either side. -/
theorem below_reset {w W0 : World} {b : Nat} {q0 q : Value} (h : Below w.heap.size (w.setCell ⟨b, 1, none⟩ q0) W0) : Below w.heap.size (w.setCell ⟨b, 1, none⟩ q) (W0.setCell ⟨b, 1, none⟩ q) := by
  refine ⟨h.os, h.tape, h.output, by simpa using h.size, fun k hk => ?_⟩
  by_cases hkb : k = b
  · subst hkb
    rw [set_congr (h.block k hk), setCell_again]
  · rw [Below.heap_setCell _ ⟨b, 1, none⟩ _ _ hkb, Below.heap_setCell _ ⟨b, 1, none⟩ _ _ hkb, h.block k hk]
    exact Below.heap_setCell _ ⟨b, 1, none⟩ _ _ hkb
/-- Behind a region in a function that has been handed the reader. -/
theorem near_plus {w W0 w1 : World} {b : Nat} {q0 : Value} {q : Int} {rs : List Nat} (h0 : Below (w.setCell ⟨b, 1, none⟩ q0).heap.size (w.setCell ⟨b, 1, none⟩ q0) W0) (h : Near rs (W0.setCell ⟨b, 1, none⟩ (.int .i64 q)) w1) (hr : ∀ r ∈ rs, w.heap.size ≤ r) :
    ∃ os d, w1 = plus (w.setCell ⟨b, 1, none⟩ (.int .i64 q)) os d := by
  rw [World.size_setCell] at h0
  have h1 := h.below (B := w.heap.size) (by have := h0.size; simpa using this) hr
  have h2 := (below_reset (q := .int .i64 q) h0).trans h1
  refine plus_of_below ?_
  rw [World.size_setCell]
  exact h2
/-- A new block reads the same whatever the reader's place. -/
theorem plus_swap {w : World} {b : Nat} {v : Value} {os : Array Obj} {d k : Nat} (h : w.heap.size ≤ k) (v' : Value) (d' : Nat) : (plus (w.setCell ⟨b, 1, none⟩ v') os d').heap[k]? = (plus (w.setCell ⟨b, 1, none⟩ v) os d).heap[k]? := by
  show ((w.setCell ⟨b, 1, none⟩ v').heap ++ os)[k]? = ((w.setCell ⟨b, 1, none⟩ v).heap ++ os)[k]?
  rw [Array.getElem?_append_right (by simpa using h), Array.getElem?_append_right (by simpa using h)]
  simp
theorem swap_cell {w : World} {b : Nat} {v : Value} {os : Array Obj} {d k i : Nat} {u : Value} (h : w.heap.size ≤ k) (hc : (plus (w.setCell ⟨b, 1, none⟩ v) os d).cell? ⟨k, i, none⟩ = some u) (v' : Value) (d' : Nat) :
    (plus (w.setCell ⟨b, 1, none⟩ v') os d').cell? ⟨k, i, none⟩ = some u := (World.cell?_of_block (a := ⟨k, i, none⟩) (plus_swap h v' d')).trans hc
theorem swap_frozen {w : World} {b : Nat} {v : Value} {os : Array Obj} {d k i : Nat} (h : w.heap.size ≤ k) (hc : (plus (w.setCell ⟨b, 1, none⟩ v) os d).frozen? ⟨k, i, none⟩ = false) (v' : Value) (d' : Nat) :
    (plus (w.setCell ⟨b, 1, none⟩ v') os d').frozen? ⟨k, i, none⟩ = false := (World.frozen?_of_block (a := ⟨k, i, none⟩) (plus_swap h v' d')).trans hc
/-- Behind a region in a function that has made the reader. -/
theorem near_up {w W0 w1 : World} {b : Nat} {q : Int} {rs : List Nat} (h0 : Below w.heap.size w W0) (hb : w.heap.size ≤ b) (h : Near rs (W0.setCell ⟨b, 1, none⟩ (.int .i64 q)) w1) (hr : ∀ r ∈ rs, w.heap.size ≤ r) :
    ∃ os d, w1 = plus w os d := by
  have h1 := h.below (B := w.heap.size) (by have := h0.size; simpa using this) hr
  exact plus_of_below ((h0.setCell hb _).trans h1)

theorem Below.top {W w1 : World} {o : Obj} (h : Below W.heap.size W w1) (ho : w1.heap[W.heap.size]? = some o) : Below (W.alloc o).heap.size (W.alloc o) w1 := by
  refine ⟨h.os, h.tape, h.output, by have := (Array.getElem?_eq_some_iff.1 ho).1; simp; omega, fun k hk => ?_⟩
  by_cases hkW : k < W.heap.size
  · rw [h.block k hkW, Below.heap_alloc W o k hkW]
  · obtain rfl : k = W.heap.size := by simp at hk; omega
    rw [ho, heap_alloc_new]
theorem res_lit2 {w : World} {r : Nat} {T : TypeId} {l0 h0 l1 h1 : Int} (h : CellsIn w r 0 [(l0, h0), (l1, h1)] ∧ ResHas w r T 2) : ∃ x0 x1 : Int, w.heap[r]? = some (.cells #[.int .i64 x0, .int .i64 x1] T (0, 0)) ∧ (l0 ≤ x0 ∧ x0 ≤ h0) ∧ l1 ≤ x1 ∧ x1 ≤ h1 := by
  obtain ⟨⟨⟨x0, c0, b0⟩, ⟨x1, c1, b1⟩, _⟩, cs, hh, hs⟩ := h
  refine ⟨x0, x1, ?_, b0, b1⟩
  rw [hh]
  rw [cell_of_row w r 0 cs T (0, 0) hh] at c0
  rw [cell_of_row w r _ cs T (0, 0) hh] at c1
  have : cs = #[.int .i64 x0, .int .i64 x1] := by
    apply Array.ext_getElem?
    intro i
    match i with
    | 0 => simpa using c0
    | 1 => simpa using c1
    | i + 2 => rw [Array.getElem?_eq_none (by omega)]; simp
  rw [this]
theorem res_lit3 {w : World} {r : Nat} {T : TypeId} {l0 h0 l1 h1 l2 h2 : Int} (h : CellsIn w r 0 [(l0, h0), (l1, h1), (l2, h2)] ∧ ResHas w r T 3) : ∃ x0 x1 x2 : Int, w.heap[r]? = some (.cells #[.int .i64 x0, .int .i64 x1, .int .i64 x2] T (0, 0)) ∧ (l0 ≤ x0 ∧ x0 ≤ h0) ∧ (l1 ≤ x1 ∧ x1 ≤ h1) ∧ l2 ≤ x2 ∧ x2 ≤ h2 := by
  obtain ⟨⟨⟨x0, c0, b0⟩, ⟨x1, c1, b1⟩, ⟨x2, c2, b2⟩, _⟩, cs, hh, hs⟩ := h
  refine ⟨x0, x1, x2, ?_, b0, b1, b2⟩
  rw [hh]
  rw [cell_of_row w r 0 cs T (0, 0) hh] at c0
  rw [cell_of_row w r _ cs T (0, 0) hh] at c1
  rw [cell_of_row w r _ cs T (0, 0) hh] at c2
  have : cs = #[.int .i64 x0, .int .i64 x1, .int .i64 x2] := by
    apply Array.ext_getElem?
    intro i
    match i with
    | 0 => simpa using c0
    | 1 => simpa using c1
    | 2 => simpa using c2
    | i + 3 => rw [Array.getElem?_eq_none (by omega)]; simp
  rw [this]
theorem near_below {w W0 w1 : World} {b : Nat} {q0 : Value} {q : Int} {rs : List Nat} (h0 : Below (w.setCell ⟨b, 1, none⟩ q0).heap.size (w.setCell ⟨b, 1, none⟩ q0) W0) (h : Near rs (W0.setCell ⟨b, 1, none⟩ (.int .i64 q)) w1) (hr : ∀ r ∈ rs, w.heap.size ≤ r) :
    Below (w.setCell ⟨b, 1, none⟩ (.int .i64 q)).heap.size (w.setCell ⟨b, 1, none⟩ (.int .i64 q)) w1 := by
  obtain ⟨os, d, rfl⟩ := near_plus h0 h hr
  exact below_plus (Below.refl _ _) _ _

theorem near_low {w W0 w1 : World} {b : Nat} {q : Int} {rs : List Nat} (h0 : Below w.heap.size w W0) (hb : w.heap.size ≤ b) (h : Near rs (W0.setCell ⟨b, 1, none⟩ (.int .i64 q)) w1) (hr : ∀ r ∈ rs, w.heap.size ≤ r) : Below w.heap.size w w1 :=
  (h0.setCell hb _).trans (h.below (B := w.heap.size) (by have := h0.size; simpa using this) hr)
theorem cell_some {w : World} {r i : Nat} {cs : Array Value} {e : TypeId} (h : w.heap[r]? = some (.cells cs e (0, 0))) (hi : i < cs.size) : ∃ u, w.cell? ⟨r, i, none⟩ = some u :=
  ⟨cs[i], by rw [cell_of_row w r i cs e (0, 0) h]; exact Array.getElem?_eq_getElem hi⟩
theorem grown_set {w w' : World} {r i : Nat} {u : Value} (h : w.grownBy w' (some r)) : w.grownBy (w'.setCell ⟨r, i, none⟩ u) (some r) :=
  ⟨h.os, h.tape, h.output, by simpa using h.size, fun k hk hne => (Below.heap_setCell w' ⟨r, i, none⟩ u k (fun e => hne (by rw [e]))).trans (h.block k hk hne)⟩
theorem grown_refl (w : World) (row : Option Nat) : w.grownBy w row := ⟨rfl, rfl, rfl, Nat.le_refl _, fun _ _ _ => rfl⟩
theorem set2 {w : World} {r : Nat} {cs : Array Value} {e : TypeId} (h : w.heap[r]? = some (.cells cs e (0, 0))) (hs : cs.size = 2) (x0 x1 : Int) :
    w.grownBy ((w.setCell ⟨r, 0, none⟩ (.int .i64 x0)).setCell ⟨r, 1, none⟩ (.int .i64 x1)) (some r) ∧ ResHas ((w.setCell ⟨r, 0, none⟩ (.int .i64 x0)).setCell ⟨r, 1, none⟩ (.int .i64 x1)) r e 2 ∧
      ((w.setCell ⟨r, 0, none⟩ (.int .i64 x0)).setCell ⟨r, 1, none⟩ (.int .i64 x1)).cell? ⟨r, 0, none⟩ = some (.int .i64 x0) ∧ ((w.setCell ⟨r, 0, none⟩ (.int .i64 x0)).setCell ⟨r, 1, none⟩ (.int .i64 x1)).cell? ⟨r, 1, none⟩ = some (.int .i64 x1) := by
  have g0 := heap_setCell_same w r 0 cs e (.int .i64 x0) h
  have g1 := heap_setCell_same _ r 1 _ e (.int .i64 x1) g0
  refine ⟨grown_set (grown_set (grown_refl _ _)), ⟨_, g1, by simpa using hs⟩, ?_, ?_⟩
  · rw [cell_of_row _ r 0 _ e (0, 0) g1]; simp [Array.getElem?_setIfInBounds, hs]
  · rw [cell_of_row _ r 1 _ e (0, 0) g1]; simp [Array.getElem?_setIfInBounds, hs]
theorem set3 {w : World} {r : Nat} {cs : Array Value} {e : TypeId} (h : w.heap[r]? = some (.cells cs e (0, 0))) (hs : cs.size = 3) (x0 x1 x2 : Int) :
    w.grownBy (((w.setCell ⟨r, 0, none⟩ (.int .i64 x0)).setCell ⟨r, 1, none⟩ (.int .i64 x1)).setCell ⟨r, 2, none⟩ (.int .i64 x2)) (some r) ∧ ResHas (((w.setCell ⟨r, 0, none⟩ (.int .i64 x0)).setCell ⟨r, 1, none⟩ (.int .i64 x1)).setCell ⟨r, 2, none⟩ (.int .i64 x2)) r e 3 ∧
      (((w.setCell ⟨r, 0, none⟩ (.int .i64 x0)).setCell ⟨r, 1, none⟩ (.int .i64 x1)).setCell ⟨r, 2, none⟩ (.int .i64 x2)).cell? ⟨r, 0, none⟩ = some (.int .i64 x0) ∧ (((w.setCell ⟨r, 0, none⟩ (.int .i64 x0)).setCell ⟨r, 1, none⟩ (.int .i64 x1)).setCell ⟨r, 2, none⟩ (.int .i64 x2)).cell? ⟨r, 1, none⟩ = some (.int .i64 x1) ∧
      (((w.setCell ⟨r, 0, none⟩ (.int .i64 x0)).setCell ⟨r, 1, none⟩ (.int .i64 x1)).setCell ⟨r, 2, none⟩ (.int .i64 x2)).cell? ⟨r, 2, none⟩ = some (.int .i64 x2) := by
  have g0 := heap_setCell_same w r 0 cs e (.int .i64 x0) h
  have g1 := heap_setCell_same _ r 1 _ e (.int .i64 x1) g0
  have g2 := heap_setCell_same _ r 2 _ e (.int .i64 x2) g1
  refine ⟨grown_set (grown_set (grown_set (grown_refl _ _))), ⟨_, g2, by simpa using hs⟩, ?_, ?_, ?_⟩
  · rw [cell_of_row _ r 0 _ e (0, 0) g2]; simp [Array.getElem?_setIfInBounds, hs]
  · rw [cell_of_row _ r 1 _ e (0, 0) g2]; simp [Array.getElem?_setIfInBounds, hs]
  · rw [cell_of_row _ r 2 _ e (0, 0) g2]; simp [Array.getElem?_setIfInBounds, hs]

end Go.Proofs.Ytnflmbmhncndfaa
