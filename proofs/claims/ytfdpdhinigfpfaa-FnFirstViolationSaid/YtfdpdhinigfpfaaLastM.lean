/-
  A region that draws its order, whose last operation waits for all others, some of whose operations are guarded, and of which one makes memory: whatever the order, the others yield the same values, and the last one comes last. No condition beyond those that each theorem states.
-/
import Derived.Test.YtfdpdhinigfpfaaLastG
namespace Go.Proofs.Ytfdpdhinigfpfaa
open Go.RowKit

/-- An operation that yields its value, from a world of the one kind to a world of the other. -/
def StepM (R R' : World → Prop) (A : Act) (o : Oper) : Prop :=
  ∀ (a : Act) (w : World) (K : Act → World → Prop) (Q : Exit → Act → World → Prop), (∀ t ∈ readsL o, gd a t = gd A t) → R w →
    (∀ w', R' w' → K (a.put o.dst (gd A (o.dst.getD 0))) w') → o.wp Try.prog a w K Q
/-- Operation k of the region, of which number ia makes memory. -/
def CondM (R : Bool → World → Prop) (ia : Nat) (A : Act) (k : Nat) (md : Region.Mode) (o : Oper) : Prop :=
  (k = ia → StepM (R false) (R true) A o) ∧ (k ≠ ia → StepM (R true) (R true) A o ∧ ((∃ e ∈ o.after, Region.binds md e = true ∧ e.on = ia) ∨ StepM (R false) (R false) A o))
def AllM (gs : List (Nat × Bool)) (md : Region.Mode) (ops : Array Oper) (R : Bool → World → Prop) (ia : Nat) (A : Act) : Nat → List Oper → Prop
  | _, [] => True
  | k, o :: l => (runsG gs ops o = true → CondM R ia A k md o) ∧ (runsG gs ops o = false → k ≠ ia ∧ gd A (o.dst.getD 0) = undef) ∧ AllM gs md ops R ia A (k + 1) l
section
variable {gs : List (Nat × Bool)} {md : Region.Mode} {ops : Array Oper} {R : Bool → World → Prop} {ia : Nat} {A : Act}
theorem allM_get : ∀ (l : List Oper) (k : Nat), AllM gs md ops R ia A k l → ∀ i o, l[i]? = some o → (runsG gs ops o = true → CondM R ia A (k + i) md o) ∧ (runsG gs ops o = false → k + i ≠ ia ∧ gd A (o.dst.getD 0) = undef)
  | [], _, _, i, o, h => by simp at h
  | x :: l, k, h, 0, o, ho => by
    simp at ho
    subst ho
    exact ⟨h.1, h.2.1⟩
  | x :: l, k, h, i + 1, o, ho => by
    have := allM_get l (k + 1) h.2.2 i o (by simpa using ho)
    rw [show k + (i + 1) = k + 1 + i by omega]
    exact this
theorem allM_cons {k : Nat} {o : Oper} {l : List Oper} (hr : runsG gs ops o = true) (hk : k ≠ ia) (h1 : ∀ b, StepM (R b) (R b) A o) (h2 : AllM gs md ops R ia A (k + 1) l) : AllM gs md ops R ia A k (o :: l) :=
  ⟨fun _ => ⟨fun e => absurd e hk, fun _ => ⟨h1 true, .inr (h1 false)⟩⟩, fun h => absurd (hr.symm.trans h) (by decide), h2⟩
theorem allM_need {k : Nat} {o : Oper} {l : List Oper} (hr : runsG gs ops o = true) (hk : k ≠ ia) (hn : (o.after.any fun e => Region.binds md e && e.on == ia) = true) (h1 : StepM (R true) (R true) A o) (h2 : AllM gs md ops R ia A (k + 1) l) : AllM gs md ops R ia A k (o :: l) := by
  obtain ⟨e, he, h8⟩ := Array.any_eq_true'.1 hn
  simp only [Bool.and_eq_true, beq_iff_eq] at h8
  exact ⟨fun _ => ⟨fun e => absurd e hk, fun _ => ⟨h1, .inl ⟨e, he, h8.1, h8.2⟩⟩⟩, fun h => absurd (hr.symm.trans h) (by decide), h2⟩
theorem allM_make {k : Nat} {o : Oper} {l : List Oper} (hr : runsG gs ops o = true) (hk : k = ia) (h1 : StepM (R false) (R true) A o) (h2 : AllM gs md ops R ia A (k + 1) l) : AllM gs md ops R ia A k (o :: l) :=
  ⟨fun _ => ⟨fun _ => h1, fun h => absurd hk h⟩, fun h => absurd (hr.symm.trans h) (by decide), h2⟩
theorem allM_skip {k : Nat} {o : Oper} {l : List Oper} (hr : runsG gs ops o = false) (hk : k ≠ ia) (h1 : gd A (o.dst.getD 0) = undef) (h2 : AllM gs md ops R ia A (k + 1) l) : AllM gs md ops R ia A k (o :: l) :=
  ⟨fun h => absurd (hr.symm.trans h) (by decide), fun _ => ⟨hk, h1⟩, h2⟩
/-- An operation that reads, in worlds of one kind. -/
theorem quietM {R : World → Prop} {o : Oper} (h : ∀ (a : Act) (w : World), R w → (∀ x ∈ o.op.operands.toList, a.eval x = A.eval x) → (execOp a.eval o).run Try.prog w = .ok (.value (gd A (o.dst.getD 0))) w) : StepM R R A o := by
  intro a w K Q hread hR hK
  have h1 := h a w hR (fun x hx => eval_eq hread hx)
  unfold Oper.wp
  rw [h1]
  exact hK w hR
theorem moveM {R : World → Prop} {o : Oper} (x : Operand) (h : o.op = .move x ∨ o.op = .assign x) (hv : A.eval x = gd A (o.dst.getD 0)) : StepM R R A o := by
  refine quietM fun a w _ hg => ?_
  have hx := hg x (by rcases h with h | h <;> simp [h, Op.operands])
  rw [hv] at hx
  generalize a.eval = ρ at hx
  rcases h with h | h <;> simp [execOp, h, hx, go_sem]
end

structure ComeM (md : Region.Mode) (ops : Array Oper) (A a0 : Act) (R : Bool → World → Prop) (ia : Nat) (Q : Exit → Act → World → Prop) (listed : Array Bool) (a : Act) (w : World) : Prop where
  size : listed.size = ops.size
  closed : ∀ (j : Nat) (o : Oper), ops[j]? = some o → listed.getD j false = true → ∀ e ∈ o.after, Region.binds md e = true → listed.getD e.on false = true
  open_ : listed.getD (ops.size - 1) false = false → a.defers = a0.defers ∧ a.tmps.size = a0.tmps.size ∧
    (∀ t, (∀ (j : Nat) (o : Oper), j + 1 < ops.size → ops[j]? = some o → listed.getD j false = true → o.dst ≠ some t) → gd a t = gd a0 t) ∧
    (∀ (j : Nat) (o : Oper) (d : Nat), j + 1 < ops.size → ops[j]? = some o → listed.getD j false = true → o.dst = some d → gd a d = gd A d) ∧ R (listed.getD ia false) w
  shut : listed.getD (ops.size - 1) false = true → Q .normal a w

theorem region_lastM {md : Region.Mode} {ops : Array Oper} {Q : Exit → Act → World → Prop} (R : Bool → World → Prop) (ia : Nat) (l : List (Nat × Value)) (gs : List (Nat × Bool)) (a0 : Act) (w0 : World) (h0 : R false w0) (hia0 : ia + 1 < ops.size) (hwell : wellLastG gs md ops l = true)
    (hdst : (ops.toList.all fun o => match o.dst with | some d => decide (d < a0.tmps.size) | none => true) = true)
    (hgs : ∀ g ∈ gs, gd (putAll a0 l) g.1 = .bool g.2)
    (hall : AllM gs md ops R ia (putAll a0 l) 0 (ops.toList.take (ops.size - 1)))
    (last : Oper) (hl : ops[ops.size - 1]? = some last)
    (hlast' : ∀ (w : World), R true w → last.wp Try.prog (putAll a0 l) w (fun a w => Q .normal a w) Q) :
    wpAny Try.prog md ops Q ops.size (Array.replicate ops.size false) a0 w0 := by
  have hsteps : ∀ (i : Nat) (o : Oper), i + 1 < ops.size → ops[i]? = some o → (runsG gs ops o = true → CondM R ia (putAll a0 l) i md o) ∧ (runsG gs ops o = false → i ≠ ia ∧ gd (putAll a0 l) (o.dst.getD 0) = undef) := by
    intro i o hi ho
    have := allM_get _ 0 hall i o (by rw [List.getElem?_take, if_pos (by omega)]; simpa using ho)
    rwa [Nat.zero_add] at this
  have hlast : ∀ (o : Oper) (w : World), ops[ops.size - 1]? = some o → R true w → o.wp Try.prog (putAll a0 l) w (fun a w => Q .normal a w) Q := by
    intro o w ho hw
    rw [hl] at ho
    obtain rfl := Option.some.inj ho
    exact hlast' w hw
  clear hall
  have hpos : 0 < ops.size := by
    have := hwell; unfold wellLastG at this; simp only [Bool.and_eq_true, decide_eq_true_eq] at this; exact this.1.1
  have hin : ∀ x ∈ l, ∃ i o, i + 1 < ops.size ∧ ops[i]? = some o ∧ o.dst = some x.1 := by
    intro x hx
    have := hwell; unfold wellLastG at this; simp only [Bool.and_eq_true] at this
    have h1 := List.all_eq_true.1 this.1.2 x hx
    obtain ⟨i, hi, h2⟩ := List.any_eq_true.1 h1
    have hi' := List.mem_range.1 hi
    rw [Array.getElem?_eq_getElem (show i < ops.size by omega)] at h2
    exact ⟨i, ops[i], by omega, Array.getElem?_eq_getElem _, by simpa using h2⟩
  have hfalse : ∀ (listed : Array Bool) (i : Nat), listed.size = ops.size → i < ops.size → listed.getD i true = false → listed[i]? = some false := by
    intro listed i hs hi hif
    rw [Array.getD_eq_getD_getElem?] at hif
    cases hcc : listed[i]? with
    | none => rw [hcc] at hif; simp at hif
    | some x => rw [hcc] at hif; simp at hif; rw [hif]
  -- where all that the last waits for has come up, all has
  have hdown : ∀ (listed : Array Bool) (a : Act) (w : World), ComeM md ops (putAll a0 l) a0 R ia Q listed a w → (∀ o, ops[ops.size - 1]? = some o → ∀ e ∈ o.after, Region.binds md e = true → listed.getD e.on false = true) →
      ∀ n i, i + 1 < ops.size → ops.size ≤ i + 1 + n → listed.getD i false = true := by
    intro listed a w hI hl n
    induction n with
    | zero => intro i h1 h2; omega
    | succ n ih =>
      intro i h1 h2
      have ho : ops[i]? = some ops[i] := Array.getElem?_eq_getElem (by omega)
      obtain ⟨_, j, oj, hj, hij, e, he, hb, hon⟩ := (wellLastG_op hwell ho).2.2.1 h1
      have hjs := (Array.getElem?_eq_some_iff.1 hj).1
      subst hon
      by_cases hjl : j + 1 = ops.size
      · exact hl oj (by rw [show ops.size - 1 = j by omega]; exact hj) e he hb
      · exact hI.closed j oj hj (ih j (by omega) (by omega)) e he hb
  refine wpAny_inv (ComeM md ops (putAll a0 l) a0 R ia Q) ?_ ?_ ops.size _ a0 w0 ?_ ?_
  · intro listed a w i hI hi
    obtain ⟨hil, hif, hia⟩ := ready_mem hi
    have ho : ops[i]? = some ops[i] := Array.getElem?_eq_getElem hil
    generalize ops[i] = o at ho
    obtain ⟨hg, hon, hmid, hothers⟩ := wellLastG_op hwell ho
    rw [ho] at hia
    simp only [Option.map_some, Option.getD_some] at hia
    have hafter : ∀ e ∈ o.after, Region.binds md e = true → listed.getD e.on false = true := by
      intro e he hb
      obtain ⟨k, hk, rfl⟩ := Array.mem_iff_getElem.1 he
      have := Array.all_eq_true.1 hia k hk
      simp only [Bool.or_eq_true, Bool.not_eq_true'] at this
      rcases this with h | h
      · rw [hb] at h; cases h
      · exact h
    have hsi := hfalse listed i hI.size hil hif
    have hclosed : ∀ (j : Nat) (oj : Oper), ops[j]? = some oj → (listed.setIfInBounds i true).getD j false = true → ∀ e ∈ oj.after, Region.binds md e = true → (listed.setIfInBounds i true).getD e.on false = true := by
      intro j oj hj hl e he hb
      rw [Array.getD_eq_getD_getElem?, Array.getElem?_setIfInBounds] at hl ⊢
      by_cases hij : i = j
      · subst hij
        have : oj = o := Option.some.inj (hj.symm.trans ho)
        subst this
        have := hafter e he hb
        rw [Array.getD_eq_getD_getElem?] at this
        split
        · split <;> simp_all
        · exact this
      · rw [if_neg hij] at hl
        have := hI.closed j oj hj (by rw [Array.getD_eq_getD_getElem?]; exact hl) e he hb
        rw [Array.getD_eq_getD_getElem?] at this
        split
        · split <;> simp_all
        · exact this
    unfold wpOp
    rw [ho]
    simp only []
    by_cases hlastq : i + 1 = ops.size
    · have hw : Region.wanted o (yielded ops a.tmps) = true := by simp [Region.wanted, hg.2 hlastq]
      simp only [hw, if_true]
      have hopen : listed.getD (ops.size - 1) false = false := by
        rw [show ops.size - 1 = i by omega, Array.getD_eq_getD_getElem?, hsi]; rfl
      obtain ⟨h1, h2, h3, h4, hRw⟩ := hI.open_ hopen
      have hall := fun i' h => hdown listed a _ hI (fun o' ho' => by
        have : o' = o := by rw [show ops.size - 1 = i by omega, ho] at ho'; exact (Option.some.inj ho').symm
        subst this; exact hafter) ops.size i' h (by omega)
      have hact : a = putAll a0 l := by
        have ht : a.tmps = (putAll a0 l).tmps := by
          apply Array.ext
          · rw [h2, putAll_size]
          · intro t ht1 ht2
            have hg1 : a.tmps[t] = gd a t := by simp [gd, Array.getD, ht1]
            have hg2 : (putAll a0 l).tmps[t] = gd (putAll a0 l) t := by simp [gd, Array.getD, ht2]
            rw [hg1, hg2]
            by_cases hx : ∃ (j : Nat) (oj : Oper), j + 1 < ops.size ∧ ops[j]? = some oj ∧ oj.dst = some t
            · obtain ⟨j, oj, hjl, hj, hjt⟩ := hx
              exact h4 j oj t hjl hj (hall j hjl) hjt
            · have hx' : ∀ (j : Nat) (o : Oper), j + 1 < ops.size → ops[j]? = some o → o.dst ≠ some t := fun j oj hjl hj h => hx ⟨j, oj, hjl, hj, h⟩
              rw [h3 t (fun j o hjl hj _ => hx' j o hjl hj)]
              refine (putAll_other l a0 (fun x hxl he => ?_)).symm
              obtain ⟨i', o', hil', ho', hd'⟩ := hin x hxl
              exact hx' i' o' hil' ho' (by rw [hd', he])
        cases a
        simp only at ht h1
        have hd := putAll_defers l a0
        cases hA : putAll a0 l
        rw [hA] at ht hd
        simp only at ht hd
        subst ht
        rw [h1, hd]
      refine .inl ?_
      rw [hact]
      refine Oper.wp_mono (fun a' w' h' => ?_) (hlast o w (by rw [show ops.size - 1 = i by omega]; exact ho) (by have := hall ia hia0; rw [this] at hRw; exact hRw))
      refine ⟨by simpa using hI.size, hclosed, fun hn => ?_, fun _ => h'⟩
      exfalso
      rw [show ops.size - 1 = i by omega, Array.getD_eq_getD_getElem?, Array.getElem?_setIfInBounds, if_pos rfl, if_pos (by rw [hI.size]; exact hil)] at hn
      simp at hn
    · have hopen : listed.getD (ops.size - 1) false = false := by
        cases hc : listed.getD (ops.size - 1) false with
        | false => rfl
        | true =>
          exfalso
          have hlo : ops[ops.size - 1]? = some ops[ops.size - 1] := Array.getElem?_eq_getElem (by omega)
          have := hdown listed a w hI (fun o' ho' => hI.closed _ o' ho' hc) ops.size i (by omega) (by omega)
          rw [Array.getD_eq_getD_getElem?, hsi] at this
          cases this
      obtain ⟨h1, h2, h3, h4, hRw⟩ := hI.open_ hopen
      obtain ⟨⟨dd, hd⟩, _⟩ := hmid (by omega)
      have hreads : ∀ t ∈ readsL o, gd a t = gd (putAll a0 l) t := by
        intro t ht
        by_cases hx : ∃ (j : Nat) (oj : Oper), j + 1 < ops.size ∧ ops[j]? = some oj ∧ oj.dst = some t
        · obtain ⟨j, oj, hjl, hj, hjt⟩ := hx
          obtain ⟨e, he, hb, rfl⟩ := (hothers j oj hjl hj).2 t ht hjt
          exact h4 _ oj t hjl hj (hafter e he hb) hjt
        · have hx' : ∀ (j : Nat) (o : Oper), j + 1 < ops.size → ops[j]? = some o → o.dst ≠ some t := fun j oj hjl hj h => hx ⟨j, oj, hjl, hj, h⟩
          rw [h3 t (fun j o hjl hj _ => hx' j o hjl hj)]
          refine (putAll_other l a0 (fun x hxl he => ?_)).symm
          obtain ⟨i', o', hil', ho', hd'⟩ := hin x hxl
          exact hx' i' o' hil' ho' (by rw [hd', he])
      have hw : Region.wanted o (yielded ops a.tmps) = runsG gs ops o := wanted_runs hg.1 hgs (fun k ok t hk hok ht he => by
        obtain ⟨e, he, hb, rfl⟩ := he
        exact h4 _ ok t hk hok (hafter e he hb) ht)
      have hfin : ∀ w', R ((listed.setIfInBounds i true).getD ia false) w' → ComeM md ops (putAll a0 l) a0 R ia Q (listed.setIfInBounds i true) (a.put o.dst (gd (putAll a0 l) (o.dst.getD 0))) w' := by
        intro w' hR'
        have hdl : dd < a0.tmps.size := by
          have := List.all_eq_true.1 hdst o (List.mem_of_getElem? (by simpa using ho))
          rw [hd] at this
          simpa using this
        have hput : a.put o.dst (gd (putAll a0 l) (o.dst.getD 0)) = { a with tmps := a.tmps.setIfInBounds dd (gd (putAll a0 l) dd) } := by rw [hd]; rfl
        rw [hput]
        have hgd : ∀ t, gd { a with tmps := a.tmps.setIfInBounds dd (gd (putAll a0 l) dd) } t = if dd = t then gd (putAll a0 l) dd else gd a t := by
          intro t
          show (a.tmps.setIfInBounds dd (gd (putAll a0 l) dd)).getD t undef = _
          rw [Array.getD_eq_getD_getElem?, Array.getElem?_setIfInBounds]
          by_cases hdt : dd = t
          · rw [if_pos hdt, if_pos hdt, if_pos (by rw [h2]; exact hdl)]; rfl
          · rw [if_neg hdt, if_neg hdt]; simp [gd, Array.getD_eq_getD_getElem?]
        have hset : ∀ j, j ≠ i → (listed.setIfInBounds i true).getD j false = listed.getD j false := by
          intro j hj
          rw [Array.getD_eq_getD_getElem?, Array.getElem?_setIfInBounds, if_neg (fun e => hj e.symm), ← Array.getD_eq_getD_getElem?]
        refine ⟨by simpa using hI.size, hclosed, fun hn => ⟨h1, by simpa using h2, fun t ht => ?_, fun j oj s hjl hj hl hs => ?_, hR'⟩, fun hn => ?_⟩
        · have hne : dd ≠ t := by
            intro h
            refine ht i o (by omega) ho ?_ (by rw [hd, h])
            rw [Array.getD_eq_getD_getElem?, Array.getElem?_setIfInBounds, if_pos rfl, if_pos (by rw [hI.size]; exact hil)]; rfl
          rw [hgd, if_neg hne]
          refine h3 t (fun j oj hjl hj hl => ht j oj hjl hj ?_)
          by_cases hji : j = i
          · subst hji
            rw [Array.getD_eq_getD_getElem?, Array.getElem?_setIfInBounds, if_pos rfl, if_pos (by rw [hI.size]; exact hil)]; rfl
          · rw [hset j hji]; exact hl
        · rw [hgd]
          by_cases hji : j = i
          · subst hji
            have : oj = o := Option.some.inj (hj.symm.trans ho)
            subst this
            have : dd = s := Option.some.inj (hd.symm.trans hs)
            rw [if_pos this, this]
          · have hne : dd ≠ s := by
              intro h
              rcases (hothers j oj hjl hj).1 with h1 | h1 | h1
              · exact hji h1.symm
              · exact hlastq h1
              · exact h1 (by rw [hs, hd, h])
            rw [if_neg hne]
            rw [hset j hji] at hl
            exact h4 j oj s hjl hj hl hs
        · exfalso
          rw [hset _ (by omega), hopen] at hn
          cases hn
      obtain ⟨hs1, hs2⟩ := hsteps i o (by omega) ho
      have hother : i ≠ ia → (listed.setIfInBounds i true).getD ia false = listed.getD ia false := by
        intro hne
        rw [Array.getD_eq_getD_getElem?, Array.getElem?_setIfInBounds, if_neg hne, ← Array.getD_eq_getD_getElem?]
      have hself : i = ia → (listed.setIfInBounds i true).getD ia false = true ∧ listed.getD ia false = false := by
        intro e
        subst e
        refine ⟨?_, ?_⟩
        · rw [Array.getD_eq_getD_getElem?, Array.getElem?_setIfInBounds, if_pos rfl, if_pos (by rw [hI.size]; exact hil)]; rfl
        · rw [Array.getD_eq_getD_getElem?, hsi]; rfl
      cases hr : runsG gs ops o
      · simp only [hw, hr, Bool.false_eq_true, if_false]
        obtain ⟨hne, hu⟩ := hs2 hr
        have := hfin w (by rw [hother hne]; exact hRw)
        rw [hu] at this
        exact this
      · simp only [hw, hr, if_true]
        refine .inl ?_
        obtain ⟨c1, c2⟩ := hs1 hr
        by_cases hia' : i = ia
        · obtain ⟨e1, e2⟩ := hself hia'
          rw [e2] at hRw
          exact c1 hia' a w _ Q hreads hRw (fun w' hw' => hfin w' (by rw [e1]; exact hw'))
        · obtain ⟨d1, d2⟩ := c2 hia'
          cases hb : listed.getD ia false
          · rcases d2 with ⟨e, he, hbb, hon'⟩ | d2
            · exfalso
              have := hafter e he hbb
              rw [hon', hb] at this
              cases this
            · rw [hb] at hRw
              exact d2 a w _ Q hreads hRw (fun w' hw' => hfin w' (by rw [hother hia', hb]; exact hw'))
          · rw [hb] at hRw
            exact d1 a w _ Q hreads hRw (fun w' hw' => hfin w' (by rw [hother hia', hb]; exact hw'))
  · intro listed a w hI hnone
    refine hI.shut ?_
    have hall : ∀ i, i < ops.size → listed.getD i false = true := by
      intro i
      induction i using Nat.strongRecOn with
      | _ i ih =>
        intro hi
        cases hl : listed.getD i false with
        | true => rfl
        | false =>
          exfalso
          have ho : ops[i]? = some ops[i] := Array.getElem?_eq_getElem hi
          obtain ⟨_, hon, _⟩ := wellLastG_op hwell ho
          have : i ∈ Region.ready md ops listed := by
            unfold Region.ready
            rw [List.mem_filter]
            refine ⟨List.mem_range.2 hi, ?_⟩
            have hlt : listed.getD i true = false := by
              rw [Array.getD_eq_getD_getElem?] at hl ⊢
              have : i < listed.size := by rw [hI.size]; exact hi
              rw [Array.getElem?_eq_getElem this] at hl ⊢
              simpa using hl
            rw [hlt, ho]
            simp only [Bool.not_false, Option.map_some, Option.getD_some, Bool.true_and, Array.all_eq_true]
            intro k hk
            cases hb : Region.binds md ops[i].after[k] with
            | false => rfl
            | true =>
              have h1 := hon _ (Array.getElem_mem hk) hb
              rw [ih _ h1 (by omega)]
              rfl
          rw [hnone] at this
          cases this
    exact hall _ (by omega)
  · unfold leftOver
    refine Nat.le_trans (List.length_filter_le _ _) ?_
    simp
  · have hno : ∀ j, (Array.replicate ops.size false).getD j false = false := by
      intro j
      rw [Array.getD_eq_getD_getElem?, Array.getElem?_replicate]
      split <;> rfl
    refine ⟨by simp, fun j o hj hl => ?_, fun _ => ⟨rfl, rfl, fun _ _ => rfl, fun j o d _ hj hl => ?_, by rw [hno]; exact h0⟩, fun hl => ?_⟩
    · rw [hno] at hl; cases hl
    · rw [hno] at hl; cases hl
    · rw [hno] at hl; cases hl

end Go.Proofs.Ytfdpdhinigfpfaa
