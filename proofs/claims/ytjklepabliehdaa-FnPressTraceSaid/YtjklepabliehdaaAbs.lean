/-
  A region that draws its order, by the shapes of its values. No condition beyond those that each theorem states.
-/
import Derived.Test.YtjklepabliehdaaInv
import Derived.RegionTactic
namespace Go.Proofs.Ytjklepabliehdaa
open Go.RowKit

/-- What is known of a value: nothing; an int within bounds; a slice of n ints within bounds; the address of an int within bounds; the reader. -/
inductive Sh where
  | any
  | int (lo hi : Int)
  | sl (n : Nat) (lo hi : Int)
  | ptr (lo hi : Int)
  | rd

/-- Cell i of block k is an int within bounds. -/
def CellIn (w : World) (k i : Nat) (lo hi : Int) : Prop := ∃ x : Int, w.cell? ⟨k, i, none⟩ = some (.int .i64 x) ∧ lo ≤ x ∧ x ≤ hi

def Good (b : Nat) (w : World) : Sh → Value → Prop
  | .any, _ => True
  | .int lo hi, v => ∃ x : Int, v = .int .i64 x ∧ lo ≤ x ∧ x ≤ hi
  | .sl n lo hi, v => ∃ k, v = .slice (some ⟨k, 0, none⟩) n n ∧ k ≠ b ∧ ∀ i, i < n → CellIn w k i lo hi
  | .ptr lo hi, v => ∃ k i, v = .pointer (some ⟨k, i, none⟩) ∧ k ≠ b ∧ CellIn w k i lo hi
  | .rd, v => v = .pointer (some ⟨b, 0, none⟩)

/-- Blocks other than b are kept. -/
def Kept (b : Nat) (w w' : World) : Prop := ∀ k, k < w.heap.size → k ≠ b → w'.heap[k]? = w.heap[k]?

theorem CellIn.kept {b : Nat} {w w' : World} {k i : Nat} {lo hi : Int} (hk : Kept b w w') (hb : k ≠ b) (h : CellIn w k i lo hi) : CellIn w' k i lo hi := by
  obtain ⟨x, h1, h2⟩ := h
  exact ⟨x, (World.cell?_of_block (w := w) (hk k (World.block_lt_of_cell? _ _ h1) hb)).trans h1, h2⟩

theorem Good.kept {b : Nat} {w w' : World} {s : Sh} {v : Value} (hk : Kept b w w') (h : Good b w s v) : Good b w' s v := by
  cases s with
  | any => trivial
  | int lo hi => exact h
  | sl n lo hi =>
    obtain ⟨k, h1, h2, h3⟩ := h
    exact ⟨k, h1, h2, fun i hi => (h3 i hi).kept hk h2⟩
  | ptr lo hi =>
    obtain ⟨k, i, h1, h2, h3⟩ := h
    exact ⟨k, i, h1, h2, h3.kept hk h2⟩
  | rd => exact h

theorem kept_set (b : Nat) (w : World) (v : Value) (os : Array Obj) (d : Nat) : Kept b w (plus (w.setCell ⟨b, 1, none⟩ v) os d) := by
  intro k hk hb
  have : k < (w.setCell ⟨b, 1, none⟩ v).heap.size := by simpa using hk
  exact (plus_block this).trans (Below.heap_setCell _ _ _ _ hb)

/-- What an operation reads. -/
def readsOf (o : Oper) : List Nat := o.op.operands.toList.filterMap fun | .tmp t => some t | _ => none

/-- An operation takes good values to a good value, and the reader on by cost at most. -/
def Steps (P : Program) (b : Nat) (c : Option Addr × Nat × Nat) (cost : Int) (A : Nat → Sh) (o : Oper) : Prop :=
  ∀ (a : Act) (w : World) (q : Int) (K : Act → World → Prop) (Q : Exit → Act → World → Prop),
    (∀ t ∈ readsOf o, Good b w (A t) (a.tmps.getD t undef)) → Rd w b c.1 c.2.1 c.2.2 q → 0 ≤ q → q ≤ 900000 →
    (∀ v q' os d, q ≤ q' → q' ≤ q + cost → (∀ s, o.dst = some s → Good b (plus (w.setCell ⟨b, 1, none⟩ (.int .i64 q')) os d) (A s) v) → K (a.put o.dst v) (plus (w.setCell ⟨b, 1, none⟩ (.int .i64 q')) os d)) →
    o.wp P a w K Q

/-- What the region's text must show: no guards; each reads what stands ready; what an operation waits for stands ahead of it. -/
def wellDrawn (md : Region.Mode) (ops : Array Oper) : Bool :=
  (List.range ops.size).all fun i =>
    match ops[i]? with
    | none => false
    | some o => o.guard.isNone && o.dst.isSome && (o.after.all fun e => !Region.binds md e || decide (e.on < i)) &&
      (List.range ops.size).all fun j =>
        match ops[j]? with
        | none => false
        | some oj => (i == j || oj.dst != o.dst) && ((readsOf o).all fun t => oj.dst != some t || (o.after.any fun e => Region.binds md e && e.on == j))

theorem wellDrawn_op {md : Region.Mode} {ops : Array Oper} (h : wellDrawn md ops = true) {i : Nat} {o : Oper} (ho : ops[i]? = some o) :
    o.guard = none ∧ (∃ d, o.dst = some d) ∧ (∀ e ∈ o.after, Region.binds md e = true → e.on < i) ∧
      ∀ (j : Nat) (oj : Oper), ops[j]? = some oj → (i = j ∨ oj.dst ≠ o.dst) ∧ ∀ t ∈ readsOf o, oj.dst = some t → ∃ e ∈ o.after, Region.binds md e = true ∧ e.on = j := by
  have hi : i < ops.size := (Array.getElem?_eq_some_iff.1 ho).1
  have h1 := List.all_eq_true.1 h i (List.mem_range.2 hi)
  rw [ho] at h1
  simp only [Bool.and_eq_true] at h1
  obtain ⟨⟨⟨h2, h3⟩, h4⟩, h5⟩ := h1
  refine ⟨by simpa using h2, Option.isSome_iff_exists.1 h3, fun e he hb => ?_, fun j oj hj => ?_⟩
  · obtain ⟨k, hk, rfl⟩ := Array.mem_iff_getElem.1 he
    have := Array.all_eq_true.1 h4 k hk
    simp only [Bool.or_eq_true, Bool.not_eq_true', decide_eq_true_eq] at this
    rcases this with h | h
    · rw [hb] at h; cases h
    · exact h
  · have hjl : j < ops.size := (Array.getElem?_eq_some_iff.1 hj).1
    have h6 := List.all_eq_true.1 h5 j (List.mem_range.2 hjl)
    rw [hj] at h6
    simp only [Bool.and_eq_true, Bool.or_eq_true, beq_iff_eq, bne_iff_ne] at h6
    refine ⟨h6.1, fun t ht hd => ?_⟩
    have h7 := List.all_eq_true.1 h6.2 t ht
    simp only [Bool.or_eq_true, bne_iff_ne] at h7
    rcases h7 with h | h
    · exact absurd hd h
    · obtain ⟨e, he, h8⟩ := Array.any_eq_true'.1 h
      simp only [Bool.and_eq_true, beq_iff_eq] at h8
      exact ⟨e, he, h8.1, h8.2⟩

theorem getD_set {α : Type} (xs : Array α) (i j : Nat) (v d : α) : (xs.setIfInBounds i v).getD j d = if i = j ∧ i < xs.size then v else xs.getD j d := by
  simp only [Array.getD_eq_getD_getElem?, Array.getElem?_setIfInBounds]
  by_cases h : i = j
  · subst h
    by_cases h1 : i < xs.size
    · simp [h1]
    · simp [h1]
  · simp [h]

/-- What holds when some operations have come up. -/
structure Come (b : Nat) (cost : Int) (A : Nat → Sh) (ops : Array Oper) (a0 : Act) (w0 : World) (p : Int) (listed : Array Bool) (a : Act) (w : World) : Prop where
  size : listed.size = ops.size
  defers : a.defers = a0.defers
  tmps : a.tmps.size = a0.tmps.size
  still : ∀ t, (∀ (j : Nat) (o : Oper), ops[j]? = some o → listed.getD j false = true → o.dst ≠ some t) → a.tmps.getD t undef = a0.tmps.getD t undef
  good : ∀ (j : Nat) (o : Oper) (d : Nat), ops[j]? = some o → listed.getD j false = true → o.dst = some d → Good b w (A d) (a.tmps.getD d undef)
  world : ∃ q os d, w = plus (w0.setCell ⟨b, 1, none⟩ (.int .i64 q)) os d ∧ p ≤ q ∧ q + cost * leftOver listed ≤ p + cost * ops.size

theorem region_drawn {P : Program} {md : Region.Mode} {ops : Array Oper} {Q : Exit → Act → World → Prop} (b : Nat) (c : Option Addr × Nat × Nat) (cost : Int) (A : Nat → Sh)
    (hsteps : ∀ (i : Nat) (o : Oper), ops[i]? = some o → Steps P b c cost A o) (hwell : wellDrawn md ops = true)
    (a0 : Act) (w0 : World) (p : Int) (hr : Rd w0 b c.1 c.2.1 c.2.2 p) (hp : 0 ≤ p) (hc : 0 ≤ cost) (hfit : p + cost * ops.size ≤ 900000)
    (hpre : ∀ t, (∀ (j : Nat) (o : Oper), ops[j]? = some o → o.dst ≠ some t) → Good b w0 (A t) (a0.tmps.getD t undef))
    (hdst : ∀ (j : Nat) (o : Oper) (d : Nat), ops[j]? = some o → o.dst = some d → d < a0.tmps.size)
    (hQ : ∀ a q os d, p ≤ q → q ≤ p + cost * ops.size → a.defers = a0.defers → a.tmps.size = a0.tmps.size →
      (∀ t, (∀ (j : Nat) (o : Oper), ops[j]? = some o → o.dst ≠ some t) → a.tmps.getD t undef = a0.tmps.getD t undef) →
      (∀ (j : Nat) (o : Oper) (s : Nat), ops[j]? = some o → o.dst = some s → Good b (plus (w0.setCell ⟨b, 1, none⟩ (.int .i64 q)) os d) (A s) (a.tmps.getD s undef)) → Q .normal a (plus (w0.setCell ⟨b, 1, none⟩ (.int .i64 q)) os d)) :
    wpAny P md ops Q ops.size (Array.replicate ops.size false) a0 w0 := by
  refine wpAny_inv (Come b cost A ops a0 w0 p) ?_ ?_ ops.size _ a0 w0 ?_ ?_
  · intro listed a w i hI hi
    obtain ⟨hil, hif, hia⟩ := ready_mem hi
    have ho : ops[i]? = some ops[i] := Array.getElem?_eq_getElem hil
    generalize ops[i] = o at ho
    obtain ⟨hg, ⟨d, hd⟩, hon, hothers⟩ := wellDrawn_op hwell ho
    rw [ho] at hia
    simp only [Option.map_some, Option.getD_some] at hia
    have hafter : ∀ e ∈ o.after, Region.binds md e = true → listed.getD e.on false = true := by
      intro e he hb
      obtain ⟨k, hk, rfl⟩ := Array.mem_iff_getElem.1 he
      have := Array.all_eq_true.1 hia k hk
      simp only [Bool.or_eq_true, Bool.not_eq_true'] at this
      rcases this with h | h
      · rw [hb] at h; cases h
      · exact h
    have hsi : listed[i]? = some false := by
      rw [Array.getD_eq_getD_getElem?] at hif
      cases hcc : listed[i]? with
      | none => rw [hcc] at hif; simp at hif
      | some x => rw [hcc] at hif; simp at hif; rw [hif]
    have hless := leftOver_set hsi
    obtain ⟨q, os, dr, rfl, hq0, hq1⟩ := hI.world
    have hcl : 0 ≤ cost * ((leftOver (listed.setIfInBounds i true) : Nat) : Int) := Int.mul_nonneg hc (by omega)
    have hce : cost * ((leftOver listed : Nat) : Int) = cost * ((leftOver (listed.setIfInBounds i true) : Nat) : Int) + cost := by
      rw [← hless]; push_cast; rw [Int.mul_add, Int.mul_one]
    have hblt : b < (w0.setCell ⟨b, 1, none⟩ (.int .i64 q)).heap.size := by simpa using hr.lt
    have hw : Region.wanted o (yielded ops a.tmps) = true := by simp [Region.wanted, hg]
    unfold wpOp
    rw [ho]
    simp only [hw, if_true]
    refine .inl (hsteps i o ho a _ q _ Q (fun t ht => ?_) ((hr.set q).plus os dr) (by omega) (by omega) (fun v q' os' d' h0 h1 hv => ?_))
    · by_cases hx : ∃ (j : Nat) (oj : Oper), ops[j]? = some oj ∧ oj.dst = some t
      · obtain ⟨j, oj, hj, hjt⟩ := hx
        obtain ⟨e, he, hb, rfl⟩ := (hothers j oj hj).2 t ht hjt
        exact hI.good _ oj t hj (hafter e he hb) hjt
      · have hx' : ∀ (j : Nat) (o : Oper), ops[j]? = some o → o.dst ≠ some t := fun j oj hj h => hx ⟨j, oj, hj, h⟩
        rw [hI.still t (fun j o hj _ => hx' j o hj)]
        exact (hpre t hx').kept (kept_set b w0 _ os dr)
    · have hworld : plus ((plus (w0.setCell ⟨b, 1, none⟩ (.int .i64 q)) os dr).setCell ⟨b, 1, none⟩ (.int .i64 q')) os' d' = plus (w0.setCell ⟨b, 1, none⟩ (.int .i64 q')) (os ++ os') d' := by
        rw [plus_setCell _ _ _ hblt, plus_plus, setCell_again]
      have hkept := kept_set b (plus (w0.setCell ⟨b, 1, none⟩ (.int .i64 q)) os dr) (.int .i64 q') os' d'
      have hdl := hdst i o d ho hd
      have hput : a.put o.dst v = { a with tmps := a.tmps.setIfInBounds d v } := by rw [hd]; rfl
      refine ⟨by simpa using hI.size, by rw [hput]; exact hI.defers, by rw [hput]; simpa using hI.tmps, fun t ht => ?_, fun j oj s hj hl hs => ?_, ⟨q', os ++ os', d', hworld, by omega, by omega⟩⟩
      · have hne : d ≠ t := by
          intro h
          refine ht i o ho ?_ (by rw [hd, h])
          rw [getD_set, if_pos ⟨rfl, (Array.getElem?_eq_some_iff.1 hsi).1⟩]
        rw [hput]
        show (a.tmps.setIfInBounds d v).getD t undef = _
        rw [getD_set, if_neg (fun h => hne h.1)]
        refine hI.still t (fun j oj hj hl => ht j oj hj ?_)
        rw [getD_set]; split
        · rfl
        · exact hl
      · rw [hput]
        show Good b _ (A s) ((a.tmps.setIfInBounds d v).getD s undef)
        by_cases hij : i = j
        · subst hij
          have : oj = o := Option.some.inj (hj.symm.trans ho)
          subst this
          have : d = s := Option.some.inj (hd.symm.trans hs)
          subst this
          rw [getD_set, if_pos ⟨rfl, by rw [hI.tmps]; exact hdl⟩]
          exact hv d hd
        · have hne : d ≠ s := by
            intro h
            rcases (hothers j oj hj).1 with h1 | h1
            · exact hij h1
            · exact h1 (by rw [hs, hd, h])
          rw [getD_set, if_neg (fun h => hne h.1)]
          rw [getD_set, if_neg (fun h => hij h.1)] at hl
          exact (hI.good j oj s hj hl hs).kept hkept
  · intro listed a w hI hnone
    have hall : ∀ i, i < ops.size → listed.getD i false = true := by
      intro i
      induction i using Nat.strongRecOn with
      | _ i ih =>
        intro hi
        cases hl : listed.getD i false with
        | true => rfl
        | false =>
          exfalso
          have ho : ops[i]? = some ops[i] := Array.getElem?_eq_getElem hi
          obtain ⟨_, _, hon, _⟩ := wellDrawn_op hwell ho
          have : i ∈ Region.ready md ops listed := by
            unfold Region.ready
            rw [List.mem_filter]
            refine ⟨List.mem_range.2 hi, ?_⟩
            have hlt : listed.getD i true = false := by
              rw [Array.getD_eq_getD_getElem?] at hl ⊢
              have : i < listed.size := by rw [hI.size]; exact hi
              rw [Array.getElem?_eq_getElem this] at hl ⊢
              simpa using hl
            rw [hlt, ho]
            simp only [Bool.not_false, Option.map_some, Option.getD_some, Bool.true_and, Array.all_eq_true]
            intro k hk
            cases hb : Region.binds md ops[i].after[k] with
            | false => rfl
            | true =>
              have h1 := hon _ (Array.getElem_mem hk) hb
              rw [ih _ h1 (by omega)]
              rfl
          rw [hnone] at this
          cases this
    obtain ⟨q, os, dr, rfl, hq0, hq1⟩ := hI.world
    have hcl : 0 ≤ cost * ((leftOver listed : Nat) : Int) := Int.mul_nonneg hc (by omega)
    refine hQ a q os dr hq0 (by omega) hI.defers hI.tmps (fun t ht => hI.still t (fun j o hj _ => ht j o hj)) (fun j o s hj hs => hI.good j o s hj (hall j (Array.getElem?_eq_some_iff.1 hj).1) hs)
  · unfold leftOver
    refine Nat.le_trans (List.length_filter_le _ _) ?_
    simp
  · refine ⟨by simp, rfl, rfl, fun _ _ => rfl, fun j o d hj hl => ?_, ⟨p, #[], w0.drawn, ?_, by omega, ?_⟩⟩
    · exfalso
      rw [Array.getD_eq_getD_getElem?, Array.getElem?_replicate] at hl
      split at hl <;> simp at hl
    · rw [setCell_self hr.at_]
      exact plus_id.symm
    · have : ((leftOver (Array.replicate ops.size false) : Nat) : Int) ≤ ops.size := by
        have : leftOver (Array.replicate ops.size false) ≤ ops.size := by
          unfold leftOver
          refine Nat.le_trans (List.length_filter_le _ _) ?_
          simp
        omega
      have := Int.mul_le_mul_of_nonneg_left this hc
      omega

end Go.Proofs.Ytjklepabliehdaa
