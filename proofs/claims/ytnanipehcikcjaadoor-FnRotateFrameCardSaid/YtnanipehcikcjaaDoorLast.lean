/-
  A region that draws its order and whose last operation waits for all others: whatever the order, the others yield the same values, and the last one comes last. No condition beyond those that each theorem states.
-/
import Derived.Test.YtnanipehcikcjaaDoorInv
import Derived.Test.YtnanipehcikcjaaDoorCore
import Derived.RegionTactic
namespace Go.Proofs.YtnanipehcikcjaaDoor
open Go.RowKit

def readsL (o : Oper) : List Nat := o.op.operands.toList.filterMap fun | .tmp t => some t | _ => none
/-- The act with all the values put. -/
def putAll (a : Act) : List (Nat × Value) → Act
  | [] => a
  | x :: l => putAll (a.put (some x.1) x.2) l
theorem put_getD {a : Act} {s t : Nat} {v : Value} (h : s ≠ t) : (a.put (some s) v).tmps.getD t undef = a.tmps.getD t undef := by
  simp only [Act.put, Array.getD_eq_getD_getElem?, Array.getElem?_setIfInBounds, h, if_false]
theorem putAll_size : ∀ (l : List (Nat × Value)) (a : Act), (putAll a l).tmps.size = a.tmps.size
  | [], _ => rfl
  | x :: l, a => by rw [putAll, putAll_size l]; simp [Act.put]
theorem putAll_defers : ∀ (l : List (Nat × Value)) (a : Act), (putAll a l).defers = a.defers
  | [], _ => rfl
  | x :: l, a => by rw [putAll, putAll_defers l]; rfl
theorem putAll_other {t : Nat} : ∀ (l : List (Nat × Value)) (a : Act), (∀ x ∈ l, x.1 ≠ t) → (putAll a l).tmps.getD t undef = a.tmps.getD t undef
  | [], _, _ => rfl
  | x :: l, a, h => by rw [putAll, putAll_other l _ (fun y hy => h y (List.mem_cons_of_mem _ hy)), put_getD (h x List.mem_cons_self)]

/-- What the text must show: no guards; each reads what stands ready; each but the last is waited for by a later one; the values' slots are those of the operations. -/
def wellLast (md : Region.Mode) (ops : Array Oper) (l : List (Nat × Value)) : Bool :=
  decide (0 < ops.size) && (l.all fun x => (List.range (ops.size - 1)).any fun i => match ops[i]? with | some o => o.dst == some x.1 | none => false) &&
  (List.range ops.size).all fun i =>
    match ops[i]? with
    | none => false
    | some o => o.guard.isNone && (o.after.all fun e => !Region.binds md e || decide (e.on < i)) &&
      (i + 1 == ops.size || (o.dst.isSome && (List.range ops.size).any fun j => match ops[j]? with | some oj => decide (i < j) && oj.after.any fun e => Region.binds md e && e.on == i | none => false)) &&
      (List.range (ops.size - 1)).all fun j =>
        match ops[j]? with
        | none => false
        | some oj => (i == j || i + 1 == ops.size || oj.dst != o.dst) && ((readsL o).all fun t => oj.dst != some t || (o.after.any fun e => Region.binds md e && e.on == j))

theorem wellLast_op {md : Region.Mode} {ops : Array Oper} {l : List (Nat × Value)} (h : wellLast md ops l = true) {i : Nat} {o : Oper} (ho : ops[i]? = some o) :
    o.guard = none ∧ (∀ e ∈ o.after, Region.binds md e = true → e.on < i) ∧ (i + 1 < ops.size → (∃ d, o.dst = some d) ∧ ∃ j oj, ops[j]? = some oj ∧ i < j ∧ ∃ e ∈ oj.after, Region.binds md e = true ∧ e.on = i) ∧
      ∀ (j : Nat) (oj : Oper), j + 1 < ops.size → ops[j]? = some oj → (i = j ∨ i + 1 = ops.size ∨ oj.dst ≠ o.dst) ∧ ∀ t ∈ readsL o, oj.dst = some t → ∃ e ∈ o.after, Region.binds md e = true ∧ e.on = j := by
  have hi : i < ops.size := (Array.getElem?_eq_some_iff.1 ho).1
  unfold wellLast at h
  rw [Bool.and_eq_true] at h
  have h1 := List.all_eq_true.1 h.2 i (List.mem_range.2 hi)
  rw [ho] at h1
  simp only [Bool.and_eq_true] at h1
  obtain ⟨⟨⟨h2, h4⟩, h6⟩, h5⟩ := h1
  refine ⟨by simpa using h2, fun e he hb => ?_, fun hlt => ?_, fun j oj hjl hj => ?_⟩
  · obtain ⟨k, hk, rfl⟩ := Array.mem_iff_getElem.1 he
    have := Array.all_eq_true.1 h4 k hk
    simp only [Bool.or_eq_true, Bool.not_eq_true', decide_eq_true_eq] at this
    rcases this with h | h
    · rw [hb] at h; cases h
    · exact h
  · rw [Bool.or_eq_true] at h6
    rcases h6 with h6 | h6
    · simp at h6; omega
    · rw [Bool.and_eq_true] at h6
      refine ⟨Option.isSome_iff_exists.1 h6.1, ?_⟩
      obtain ⟨j, hj, h7⟩ := List.any_eq_true.1 h6.2
      have hjs := List.mem_range.1 hj
      rw [Array.getElem?_eq_getElem hjs] at h7
      simp only [Bool.and_eq_true, decide_eq_true_eq] at h7
      obtain ⟨e, he, h8⟩ := Array.any_eq_true'.1 h7.2
      simp only [Bool.and_eq_true, beq_iff_eq] at h8
      exact ⟨j, ops[j], Array.getElem?_eq_getElem hjs, h7.1, e, he, h8.1, h8.2⟩
  · have h7 := List.all_eq_true.1 h5 j (List.mem_range.2 (by omega))
    rw [hj] at h7
    simp only [Bool.and_eq_true, Bool.or_eq_true, beq_iff_eq, bne_iff_ne] at h7
    refine ⟨?_, fun t ht hd => ?_⟩
    · rcases h7.1 with (h | h) | h
      · exact .inl h
      · exact .inr (.inl h)
      · exact .inr (.inr h)
    have h8 := List.all_eq_true.1 h7.2 t ht
    simp only [Bool.or_eq_true, bne_iff_ne] at h8
    rcases h8 with h | h
    · exact absurd hd h
    · obtain ⟨e, he, h9⟩ := Array.any_eq_true'.1 h
      simp only [Bool.and_eq_true, beq_iff_eq] at h9
      exact ⟨e, he, h9.1, h9.2⟩

def gd (a : Act) (t : Nat) : Value := a.tmps.getD t undef
/-- An operation that yields its value whatever new blocks have come. -/
def PureStep (P : Program) (w0 : World) (A : Act) (o : Oper) : Prop :=
  ∀ (a : Act) (os : Array Obj) (d : Nat) (K : Act → World → Prop) (Q : Exit → Act → World → Prop), (∀ t ∈ readsL o, gd a t = gd A t) →
    (∀ os' d', K (a.put o.dst (gd A (o.dst.getD 0))) (plus w0 os' d')) → o.wp P a (plus w0 os d) K Q

def AllPure (P : Program) (w0 : World) (A : Act) : List Oper → Prop
  | [] => True
  | o :: l => PureStep P w0 A o ∧ AllPure P w0 A l
theorem allPure_mem {P : Program} {w0 : World} {A : Act} : ∀ (l : List Oper), AllPure P w0 A l → ∀ o ∈ l, PureStep P w0 A o
  | [], _, _, h => by cases h
  | x :: l, h, o, ho => by
    rcases List.mem_cons.1 ho with rfl | h1
    · exact h.1
    · exact allPure_mem l h.2 o h1
theorem allPure_cons {P : Program} {w0 : World} {A : Act} {o : Oper} {l : List Oper} (h1 : PureStep P w0 A o) (h2 : AllPure P w0 A l) : AllPure P w0 A (o :: l) := ⟨h1, h2⟩

theorem eval_eq {a A : Act} {o : Oper} (h : ∀ t ∈ readsL o, gd a t = gd A t) {x : Operand} (hx : x ∈ o.op.operands.toList) : a.eval x = A.eval x := by
  cases x with
  | tmp t => exact h t (by unfold readsL; rw [List.mem_filterMap]; exact ⟨.tmp t, hx, rfl⟩)
  | const v => rfl
  | global g => rfl
  | func f => rfl
theorem pure_quiet {w0 : World} {A : Act} {o : Oper} (h : ∀ (a : Act) (os : Array Obj) (d : Nat), (∀ x ∈ o.op.operands.toList, a.eval x = A.eval x) → (execOp a.eval o).run Tryd.prog (plus w0 os d) = .ok (.value (gd A (o.dst.getD 0))) (plus w0 os d)) : PureStep Tryd.prog w0 A o := by
  intro a os d K Q hread hK
  have h1 := h a os d (fun x hx => eval_eq hread hx)
  unfold Oper.wp
  rw [h1]
  exact hK os d
theorem pure_move {w0 : World} {A : Act} {o : Oper} (x : Operand) (h : o.op = .move x ∨ o.op = .assign x) (hv : A.eval x = gd A (o.dst.getD 0)) : PureStep Tryd.prog w0 A o := by
  refine pure_quiet fun a os d hg => ?_
  have hx := hg x (by rcases h with h | h <;> simp [h, Op.operands])
  rw [hv] at hx
  generalize a.eval = ρ at hx
  rcases h with h | h <;> simp [execOp, h, hx, go_sem]
theorem pure_call {w0 : World} {A : Act} {o : Oper} (f : Nat) (args : Array Operand) (ts : Array TypeId) (vs : List Value) (eg : ∀ args w, (callFunc f args).run Tryd.prog w = .ok (.enter f args) w) (h : o.op = .call { callee := .value (.func f), args := args, argTypes := ts })
    (hvs : args.toList.map A.eval = vs) (hc : ∀ (os : Array Obj) (d : Nat), Calls Tryd.prog f vs.toArray (plus w0 os d) fun e w' => e = .returned (gd A (o.dst.getD 0)) ∧ Up (plus w0 os d) w') : PureStep Tryd.prog w0 A o := by
  intro a os d K Q hread hK
  have hm : args.map a.eval = vs.toArray := by
    have h1 : args.map a.eval = args.map A.eval := Array.map_congr_left fun x hx => eval_eq hread (by simp [h, Op.operands, Call.operands, hx])
    rw [h1, ← hvs]
    apply Array.ext'
    simp
  have hrun : (execOp a.eval o).run Tryd.prog (plus w0 os d) = .ok (.enter f vs.toArray) (plus w0 os d) := by
    have e2 : a.eval (.func f) = .func (.func f) #[] #[] := rfl
    generalize a.eval = ρ at hm e2
    simp [execOp, h, resolve, Deferred.ofValue, invoke, hm, e2, go_sem, eg]
  unfold Oper.wp
  rw [hrun, Oper.upon_enter]
  refine (hc os d).mono ?_
  rintro e w' ⟨rfl, os', d', rfl⟩
  rw [plus_plus]
  exact hK _ _

structure ComeL (md : Region.Mode) (ops : Array Oper) (A a0 : Act) (w0 : World) (Q : Exit → Act → World → Prop) (listed : Array Bool) (a : Act) (w : World) : Prop where
  size : listed.size = ops.size
  closed : ∀ (j : Nat) (o : Oper), ops[j]? = some o → listed.getD j false = true → ∀ e ∈ o.after, Region.binds md e = true → listed.getD e.on false = true
  open_ : listed.getD (ops.size - 1) false = false → a.defers = a0.defers ∧ a.tmps.size = a0.tmps.size ∧
    (∀ t, (∀ (j : Nat) (o : Oper), j + 1 < ops.size → ops[j]? = some o → listed.getD j false = true → o.dst ≠ some t) → gd a t = gd a0 t) ∧
    (∀ (j : Nat) (o : Oper) (d : Nat), j + 1 < ops.size → ops[j]? = some o → listed.getD j false = true → o.dst = some d → gd a d = gd A d) ∧ ∃ os d, w = plus w0 os d
  shut : listed.getD (ops.size - 1) false = true → Q .normal a w

theorem region_last {P : Program} {md : Region.Mode} {ops : Array Oper} {Q : Exit → Act → World → Prop} (l : List (Nat × Value)) (a0 : Act) (w0 : World) (hwell : wellLast md ops l = true)
    (hdst : (ops.toList.all fun o => match o.dst with | some d => decide (d < a0.tmps.size) | none => true) = true)
    (hall : AllPure P w0 (putAll a0 l) (ops.toList.take (ops.size - 1)))
    (last : Oper) (hl : ops[ops.size - 1]? = some last)
    (hlast' : ∀ (os : Array Obj) (d : Nat), last.wp P (putAll a0 l) (plus w0 os d) (fun a w => Q .normal a w) Q) :
    wpAny P md ops Q ops.size (Array.replicate ops.size false) a0 w0 := by
  have hsteps : ∀ (i : Nat) (o : Oper), i + 1 < ops.size → ops[i]? = some o → PureStep P w0 (putAll a0 l) o := by
    intro i o hi ho
    refine allPure_mem _ hall o ?_
    refine List.mem_of_getElem? (i := i) ?_
    rw [List.getElem?_take, if_pos (by omega)]
    simpa using ho
  have hlast : ∀ (o : Oper) (os : Array Obj) (d : Nat), ops[ops.size - 1]? = some o → o.wp P (putAll a0 l) (plus w0 os d) (fun a w => Q .normal a w) Q := by
    intro o os d ho
    rw [hl] at ho
    obtain rfl := Option.some.inj ho
    exact hlast' os d
  clear hall
  have hpos : 0 < ops.size := by
    have := hwell; unfold wellLast at this; simp only [Bool.and_eq_true, decide_eq_true_eq] at this; exact this.1.1
  have hin : ∀ x ∈ l, ∃ i o, i + 1 < ops.size ∧ ops[i]? = some o ∧ o.dst = some x.1 := by
    intro x hx
    have := hwell; unfold wellLast at this; simp only [Bool.and_eq_true] at this
    have h1 := List.all_eq_true.1 this.1.2 x hx
    obtain ⟨i, hi, h2⟩ := List.any_eq_true.1 h1
    have hi' := List.mem_range.1 hi
    rw [Array.getElem?_eq_getElem (show i < ops.size by omega)] at h2
    exact ⟨i, ops[i], by omega, Array.getElem?_eq_getElem _, by simpa using h2⟩
  have hfalse : ∀ (listed : Array Bool) (i : Nat), listed.size = ops.size → i < ops.size → listed.getD i true = false → listed[i]? = some false := by
    intro listed i hs hi hif
    rw [Array.getD_eq_getD_getElem?] at hif
    cases hcc : listed[i]? with
    | none => rw [hcc] at hif; simp at hif
    | some x => rw [hcc] at hif; simp at hif; rw [hif]
  -- where all that the last waits for has come up, all has
  have hdown : ∀ (listed : Array Bool) (a : Act) (w : World), ComeL md ops (putAll a0 l) a0 w0 Q listed a w → (∀ o, ops[ops.size - 1]? = some o → ∀ e ∈ o.after, Region.binds md e = true → listed.getD e.on false = true) →
      ∀ n i, i + 1 < ops.size → ops.size ≤ i + 1 + n → listed.getD i false = true := by
    intro listed a w hI hl n
    induction n with
    | zero => intro i h1 h2; omega
    | succ n ih =>
      intro i h1 h2
      have ho : ops[i]? = some ops[i] := Array.getElem?_eq_getElem (by omega)
      obtain ⟨_, j, oj, hj, hij, e, he, hb, hon⟩ := (wellLast_op hwell ho).2.2.1 h1
      have hjs := (Array.getElem?_eq_some_iff.1 hj).1
      subst hon
      by_cases hjl : j + 1 = ops.size
      · exact hl oj (by rw [show ops.size - 1 = j by omega]; exact hj) e he hb
      · exact hI.closed j oj hj (ih j (by omega) (by omega)) e he hb
  refine wpAny_inv (ComeL md ops (putAll a0 l) a0 w0 Q) ?_ ?_ ops.size _ a0 w0 ?_ ?_
  · intro listed a w i hI hi
    obtain ⟨hil, hif, hia⟩ := ready_mem hi
    have ho : ops[i]? = some ops[i] := Array.getElem?_eq_getElem hil
    generalize ops[i] = o at ho
    obtain ⟨hg, hon, hmid, hothers⟩ := wellLast_op hwell ho
    rw [ho] at hia
    simp only [Option.map_some, Option.getD_some] at hia
    have hafter : ∀ e ∈ o.after, Region.binds md e = true → listed.getD e.on false = true := by
      intro e he hb
      obtain ⟨k, hk, rfl⟩ := Array.mem_iff_getElem.1 he
      have := Array.all_eq_true.1 hia k hk
      simp only [Bool.or_eq_true, Bool.not_eq_true'] at this
      rcases this with h | h
      · rw [hb] at h; cases h
      · exact h
    have hsi := hfalse listed i hI.size hil hif
    have hw : Region.wanted o (yielded ops a.tmps) = true := by simp [Region.wanted, hg]
    have hclosed : ∀ (j : Nat) (oj : Oper), ops[j]? = some oj → (listed.setIfInBounds i true).getD j false = true → ∀ e ∈ oj.after, Region.binds md e = true → (listed.setIfInBounds i true).getD e.on false = true := by
      intro j oj hj hl e he hb
      rw [Array.getD_eq_getD_getElem?, Array.getElem?_setIfInBounds] at hl ⊢
      by_cases hij : i = j
      · subst hij
        have : oj = o := Option.some.inj (hj.symm.trans ho)
        subst this
        have := hafter e he hb
        rw [Array.getD_eq_getD_getElem?] at this
        split
        · split <;> simp_all
        · exact this
      · rw [if_neg hij] at hl
        have := hI.closed j oj hj (by rw [Array.getD_eq_getD_getElem?]; exact hl) e he hb
        rw [Array.getD_eq_getD_getElem?] at this
        split
        · split <;> simp_all
        · exact this
    unfold wpOp
    rw [ho]
    simp only [hw, if_true]
    by_cases hlastq : i + 1 = ops.size
    · have hopen : listed.getD (ops.size - 1) false = false := by
        rw [show ops.size - 1 = i by omega, Array.getD_eq_getD_getElem?, hsi]; rfl
      obtain ⟨h1, h2, h3, h4, os, d, rfl⟩ := hI.open_ hopen
      have hall := fun i' h => hdown listed a _ hI (fun o' ho' => by
        have : o' = o := by rw [show ops.size - 1 = i by omega, ho] at ho'; exact (Option.some.inj ho').symm
        subst this; exact hafter) ops.size i' h (by omega)
      have hact : a = putAll a0 l := by
        have ht : a.tmps = (putAll a0 l).tmps := by
          apply Array.ext
          · rw [h2, putAll_size]
          · intro t ht1 ht2
            have hg1 : a.tmps[t] = gd a t := by simp [gd, Array.getD, ht1]
            have hg2 : (putAll a0 l).tmps[t] = gd (putAll a0 l) t := by simp [gd, Array.getD, ht2]
            rw [hg1, hg2]
            by_cases hx : ∃ (j : Nat) (oj : Oper), j + 1 < ops.size ∧ ops[j]? = some oj ∧ oj.dst = some t
            · obtain ⟨j, oj, hjl, hj, hjt⟩ := hx
              exact h4 j oj t hjl hj (hall j hjl) hjt
            · have hx' : ∀ (j : Nat) (o : Oper), j + 1 < ops.size → ops[j]? = some o → o.dst ≠ some t := fun j oj hjl hj h => hx ⟨j, oj, hjl, hj, h⟩
              rw [h3 t (fun j o hjl hj _ => hx' j o hjl hj)]
              refine (putAll_other l a0 (fun x hxl he => ?_)).symm
              obtain ⟨i', o', hil', ho', hd'⟩ := hin x hxl
              exact hx' i' o' hil' ho' (by rw [hd', he])
        cases a
        simp only at ht h1
        have hd := putAll_defers l a0
        cases hA : putAll a0 l
        rw [hA] at ht hd
        simp only at ht hd
        subst ht
        rw [h1, hd]
      refine .inl ?_
      rw [hact]
      refine Oper.wp_mono (fun a' w' h' => ?_) (hlast o os d (by rw [show ops.size - 1 = i by omega]; exact ho))
      refine ⟨by simpa using hI.size, hclosed, fun hn => ?_, fun _ => h'⟩
      exfalso
      rw [show ops.size - 1 = i by omega, Array.getD_eq_getD_getElem?, Array.getElem?_setIfInBounds, if_pos rfl, if_pos (by rw [hI.size]; exact hil)] at hn
      simp at hn
    · have hopen : listed.getD (ops.size - 1) false = false := by
        cases hc : listed.getD (ops.size - 1) false with
        | false => rfl
        | true =>
          exfalso
          have hlo : ops[ops.size - 1]? = some ops[ops.size - 1] := Array.getElem?_eq_getElem (by omega)
          have := hdown listed a w hI (fun o' ho' => hI.closed _ o' ho' hc) ops.size i (by omega) (by omega)
          rw [Array.getD_eq_getD_getElem?, hsi] at this
          cases this
      obtain ⟨h1, h2, h3, h4, os, d, rfl⟩ := hI.open_ hopen
      obtain ⟨⟨dd, hd⟩, _⟩ := hmid (by omega)
      have hreads : ∀ t ∈ readsL o, gd a t = gd (putAll a0 l) t := by
        intro t ht
        by_cases hx : ∃ (j : Nat) (oj : Oper), j + 1 < ops.size ∧ ops[j]? = some oj ∧ oj.dst = some t
        · obtain ⟨j, oj, hjl, hj, hjt⟩ := hx
          obtain ⟨e, he, hb, rfl⟩ := (hothers j oj hjl hj).2 t ht hjt
          exact h4 _ oj t hjl hj (hafter e he hb) hjt
        · have hx' : ∀ (j : Nat) (o : Oper), j + 1 < ops.size → ops[j]? = some o → o.dst ≠ some t := fun j oj hjl hj h => hx ⟨j, oj, hjl, hj, h⟩
          rw [h3 t (fun j o hjl hj _ => hx' j o hjl hj)]
          refine (putAll_other l a0 (fun x hxl he => ?_)).symm
          obtain ⟨i', o', hil', ho', hd'⟩ := hin x hxl
          exact hx' i' o' hil' ho' (by rw [hd', he])
      refine .inl (hsteps i o (by omega) ho a os d _ Q hreads (fun os' d' => ?_))
      have hdl : dd < a0.tmps.size := by
        have := List.all_eq_true.1 hdst o (List.mem_of_getElem? (by simpa using ho))
        rw [hd] at this
        simpa using this
      have hput : a.put o.dst (gd (putAll a0 l) (o.dst.getD 0)) = { a with tmps := a.tmps.setIfInBounds dd (gd (putAll a0 l) dd) } := by rw [hd]; rfl
      rw [hput]
      have hgd : ∀ t, gd { a with tmps := a.tmps.setIfInBounds dd (gd (putAll a0 l) dd) } t = if dd = t then gd (putAll a0 l) dd else gd a t := by
        intro t
        show (a.tmps.setIfInBounds dd (gd (putAll a0 l) dd)).getD t undef = _
        rw [Array.getD_eq_getD_getElem?, Array.getElem?_setIfInBounds]
        by_cases hdt : dd = t
        · rw [if_pos hdt, if_pos hdt, if_pos (by rw [h2]; exact hdl)]; rfl
        · rw [if_neg hdt, if_neg hdt]; simp [gd, Array.getD_eq_getD_getElem?]
      have hset : ∀ j, j ≠ i → (listed.setIfInBounds i true).getD j false = listed.getD j false := by
        intro j hj
        rw [Array.getD_eq_getD_getElem?, Array.getElem?_setIfInBounds, if_neg (fun e => hj e.symm), ← Array.getD_eq_getD_getElem?]
      refine ⟨by simpa using hI.size, hclosed, fun hn => ⟨h1, by simpa using h2, fun t ht => ?_, fun j oj s hjl hj hl hs => ?_, os', d', rfl⟩, fun hn => ?_⟩
      · have hne : dd ≠ t := by
          intro h
          refine ht i o (by omega) ho ?_ (by rw [hd, h])
          rw [Array.getD_eq_getD_getElem?, Array.getElem?_setIfInBounds, if_pos rfl, if_pos (by rw [hI.size]; exact hil)]; rfl
        rw [hgd, if_neg hne]
        refine h3 t (fun j oj hjl hj hl => ht j oj hjl hj ?_)
        by_cases hji : j = i
        · subst hji
          rw [Array.getD_eq_getD_getElem?, Array.getElem?_setIfInBounds, if_pos rfl, if_pos (by rw [hI.size]; exact hil)]; rfl
        · rw [hset j hji]; exact hl
      · rw [hgd]
        by_cases hji : j = i
        · subst hji
          have : oj = o := Option.some.inj (hj.symm.trans ho)
          subst this
          have : dd = s := Option.some.inj (hd.symm.trans hs)
          rw [if_pos this, this]
        · have hne : dd ≠ s := by
            intro h
            rcases (hothers j oj hjl hj).1 with h1 | h1 | h1
            · exact hji h1.symm
            · exact hlastq h1
            · exact h1 (by rw [hs, hd, h])
          rw [if_neg hne]
          rw [hset j hji] at hl
          exact h4 j oj s hjl hj hl hs
      · exfalso
        rw [hset _ (by omega), hopen] at hn
        cases hn
  · intro listed a w hI hnone
    refine hI.shut ?_
    have hall : ∀ i, i < ops.size → listed.getD i false = true := by
      intro i
      induction i using Nat.strongRecOn with
      | _ i ih =>
        intro hi
        cases hl : listed.getD i false with
        | true => rfl
        | false =>
          exfalso
          have ho : ops[i]? = some ops[i] := Array.getElem?_eq_getElem hi
          obtain ⟨_, hon, _⟩ := wellLast_op hwell ho
          have : i ∈ Region.ready md ops listed := by
            unfold Region.ready
            rw [List.mem_filter]
            refine ⟨List.mem_range.2 hi, ?_⟩
            have hlt : listed.getD i true = false := by
              rw [Array.getD_eq_getD_getElem?] at hl ⊢
              have : i < listed.size := by rw [hI.size]; exact hi
              rw [Array.getElem?_eq_getElem this] at hl ⊢
              simpa using hl
            rw [hlt, ho]
            simp only [Bool.not_false, Option.map_some, Option.getD_some, Bool.true_and, Array.all_eq_true]
            intro k hk
            cases hb : Region.binds md ops[i].after[k] with
            | false => rfl
            | true =>
              have h1 := hon _ (Array.getElem_mem hk) hb
              rw [ih _ h1 (by omega)]
              rfl
          rw [hnone] at this
          cases this
    exact hall _ (by omega)
  · unfold leftOver
    refine Nat.le_trans (List.length_filter_le _ _) ?_
    simp
  · have hno : ∀ j, (Array.replicate ops.size false).getD j false = false := by
      intro j
      rw [Array.getD_eq_getD_getElem?, Array.getElem?_replicate]
      split <;> rfl
    refine ⟨by simp, fun j o hj hl => ?_, fun _ => ⟨rfl, rfl, fun _ _ => rfl, fun j o d _ hj hl => ?_, #[], w0.drawn, plus_id.symm⟩, fun hl => ?_⟩
    · rw [hno] at hl; cases hl
    · rw [hno] at hl; cases hl
    · rw [hno] at hl; cases hl

end Go.Proofs.YtnanipehcikcjaaDoor
