/-
  A region that draws its order, whose last operation waits for all others and some of whose operations are guarded: whatever the order, the others yield the same values, and the last one comes last. No condition beyond those that each theorem states.
-/
import Derived.Test.YtnanipehcikcjaaDoorLast
namespace Go.Proofs.YtnanipehcikcjaaDoor
open Go.RowKit

/-- Whether an operation's guard holds, the guards' values being gs (slot, value). -/
def runsG (gs : List (Nat × Bool)) (ops : Array Oper) (o : Oper) : Bool :=
  match o.guard with
  | none => true
  | some (k, b) => match ops[k]? with
    | none => false
    | some ok => match ok.dst with
      | none => false
      | some t => gs.any fun g => g.1 == t && g.2 == b
def guardG (gs : List (Nat × Bool)) (md : Region.Mode) (ops : Array Oper) (o : Oper) : Bool :=
  match o.guard with
  | none => true
  | some (k, _) => decide (k + 1 < ops.size) && (o.after.any fun e => Region.binds md e && e.on == k) && match ops[k]? with
    | none => false
    | some ok => match ok.dst with
      | none => false
      | some t => gs.any fun g => g.1 == t
theorem wanted_runs {gs : List (Nat × Bool)} {md : Region.Mode} {ops : Array Oper} {A a : Act} {o : Oper} (hg : guardG gs md ops o = true) (hgs : ∀ g ∈ gs, gd A g.1 = .bool g.2)
    (hr : ∀ (k : Nat) (ok : Oper) (t : Nat), k + 1 < ops.size → ops[k]? = some ok → ok.dst = some t → (∃ e ∈ o.after, Region.binds md e = true ∧ e.on = k) → gd a t = gd A t) : Region.wanted o (yielded ops a.tmps) = runsG gs ops o := by
  unfold guardG at hg
  unfold Region.wanted runsG
  cases hgd : o.guard with
  | none => rfl
  | some kb =>
    obtain ⟨k, b⟩ := kb
    rw [hgd] at hg
    simp only [Bool.and_eq_true, decide_eq_true_eq] at hg
    obtain ⟨⟨h1, h2⟩, h3⟩ := hg
    cases hk : ops[k]? with
    | none => rw [hk] at h3; cases h3
    | some ok =>
      rw [hk] at h3
      simp only at h3
      cases ht : ok.dst with
      | none => rw [ht] at h3; cases h3
      | some t =>
        rw [ht] at h3
        simp only at h3
        obtain ⟨g, hgm, hge⟩ := List.any_eq_true.1 h3
        simp only [beq_iff_eq] at hge
        obtain ⟨e, he, h8⟩ := Array.any_eq_true'.1 h2
        simp only [Bool.and_eq_true, beq_iff_eq] at h8
        have hv := hr k ok t h1 hk ht ⟨e, he, h8.1, h8.2⟩
        have hA := hgs g hgm
        rw [hge] at hA
        rw [hA] at hv
        have hsome : a.tmps[t]? = some (.bool g.2) := by
          unfold gd at hv
          rw [Array.getD_eq_getD_getElem?] at hv
          cases hx : a.tmps[t]? with
          | none => rw [hx] at hv; cases hv
          | some x => rw [hx] at hv; simp at hv; rw [hv]
        have hy : yielded ops a.tmps k = some g.2 := by
          unfold yielded
          rw [hk]
          simp only [Option.bind_some, ht, hsome]
        simp only [hy, hk, ht]
        rw [Bool.eq_iff_iff]
        simp only [beq_iff_eq, Option.some.injEq, List.any_eq_true, Bool.and_eq_true]
        constructor
        · intro h; exact ⟨g, hgm, hge, h⟩
        · rintro ⟨g', hm', e1, e2⟩
          have := hgs g' hm'
          rw [e1, hA] at this
          simp only [Value.bool.injEq] at this
          rw [this, e2]

/-- What the text must show: no guards; each reads what stands ready; each but the last is waited for by a later one; the values' slots are those of the operations. -/
def wellLastG (gs : List (Nat × Bool)) (md : Region.Mode) (ops : Array Oper) (l : List (Nat × Value)) : Bool :=
  decide (0 < ops.size) && (l.all fun x => (List.range (ops.size - 1)).any fun i => match ops[i]? with | some o => o.dst == some x.1 | none => false) &&
  (List.range ops.size).all fun i =>
    match ops[i]? with
    | none => false
    | some o => guardG gs md ops o && (i + 1 != ops.size || o.guard.isNone) && (o.after.all fun e => !Region.binds md e || decide (e.on < i)) &&
      (i + 1 == ops.size || (o.dst.isSome && (List.range ops.size).any fun j => match ops[j]? with | some oj => decide (i < j) && oj.after.any fun e => Region.binds md e && e.on == i | none => false)) &&
      (List.range (ops.size - 1)).all fun j =>
        match ops[j]? with
        | none => false
        | some oj => (i == j || i + 1 == ops.size || oj.dst != o.dst) && ((readsL o).all fun t => oj.dst != some t || (o.after.any fun e => Region.binds md e && e.on == j))

theorem wellLastG_op {gs : List (Nat × Bool)} {md : Region.Mode} {ops : Array Oper} {l : List (Nat × Value)} (h : wellLastG gs md ops l = true) {i : Nat} {o : Oper} (ho : ops[i]? = some o) :
    (guardG gs md ops o = true ∧ (i + 1 = ops.size → o.guard = none)) ∧ (∀ e ∈ o.after, Region.binds md e = true → e.on < i) ∧ (i + 1 < ops.size → (∃ d, o.dst = some d) ∧ ∃ j oj, ops[j]? = some oj ∧ i < j ∧ ∃ e ∈ oj.after, Region.binds md e = true ∧ e.on = i) ∧
      ∀ (j : Nat) (oj : Oper), j + 1 < ops.size → ops[j]? = some oj → (i = j ∨ i + 1 = ops.size ∨ oj.dst ≠ o.dst) ∧ ∀ t ∈ readsL o, oj.dst = some t → ∃ e ∈ o.after, Region.binds md e = true ∧ e.on = j := by
  have hi : i < ops.size := (Array.getElem?_eq_some_iff.1 ho).1
  unfold wellLastG at h
  rw [Bool.and_eq_true] at h
  have h1 := List.all_eq_true.1 h.2 i (List.mem_range.2 hi)
  rw [ho] at h1
  simp only [Bool.and_eq_true] at h1
  obtain ⟨⟨⟨⟨h2, h2'⟩, h4⟩, h6⟩, h5⟩ := h1
  refine ⟨⟨h2, fun he => by simpa [he] using h2'⟩, fun e he hb => ?_, fun hlt => ?_, fun j oj hjl hj => ?_⟩
  · obtain ⟨k, hk, rfl⟩ := Array.mem_iff_getElem.1 he
    have := Array.all_eq_true.1 h4 k hk
    simp only [Bool.or_eq_true, Bool.not_eq_true', decide_eq_true_eq] at this
    rcases this with h | h
    · rw [hb] at h; cases h
    · exact h
  · rw [Bool.or_eq_true] at h6
    rcases h6 with h6 | h6
    · simp at h6; omega
    · rw [Bool.and_eq_true] at h6
      refine ⟨Option.isSome_iff_exists.1 h6.1, ?_⟩
      obtain ⟨j, hj, h7⟩ := List.any_eq_true.1 h6.2
      have hjs := List.mem_range.1 hj
      rw [Array.getElem?_eq_getElem hjs] at h7
      simp only [Bool.and_eq_true, decide_eq_true_eq] at h7
      obtain ⟨e, he, h8⟩ := Array.any_eq_true'.1 h7.2
      simp only [Bool.and_eq_true, beq_iff_eq] at h8
      exact ⟨j, ops[j], Array.getElem?_eq_getElem hjs, h7.1, e, he, h8.1, h8.2⟩
  · have h7 := List.all_eq_true.1 h5 j (List.mem_range.2 (by omega))
    rw [hj] at h7
    simp only [Bool.and_eq_true, Bool.or_eq_true, beq_iff_eq, bne_iff_ne] at h7
    refine ⟨?_, fun t ht hd => ?_⟩
    · rcases h7.1 with (h | h) | h
      · exact .inl h
      · exact .inr (.inl h)
      · exact .inr (.inr h)
    have h8 := List.all_eq_true.1 h7.2 t ht
    simp only [Bool.or_eq_true, bne_iff_ne] at h8
    rcases h8 with h | h
    · exact absurd hd h
    · obtain ⟨e, he, h9⟩ := Array.any_eq_true'.1 h
      simp only [Bool.and_eq_true, beq_iff_eq] at h9
      exact ⟨e, he, h9.1, h9.2⟩

def AllG (gs : List (Nat × Bool)) (ops : Array Oper) (w0 : World) (A : Act) : List Oper → Prop
  | [] => True
  | o :: l => (runsG gs ops o = true → PureStep Tryd.prog w0 A o) ∧ (runsG gs ops o = false → gd A (o.dst.getD 0) = undef) ∧ AllG gs ops w0 A l
theorem allG_mem {gs : List (Nat × Bool)} {ops : Array Oper} {w0 : World} {A : Act} : ∀ (l : List Oper), AllG gs ops w0 A l → ∀ o ∈ l, (runsG gs ops o = true → PureStep Tryd.prog w0 A o) ∧ (runsG gs ops o = false → gd A (o.dst.getD 0) = undef)
  | [], _, _, h => by cases h
  | x :: l, h, o, ho => by
    rcases List.mem_cons.1 ho with rfl | h1
    · exact ⟨h.1, h.2.1⟩
    · exact allG_mem l h.2.2 o h1
theorem allG_cons {gs : List (Nat × Bool)} {ops : Array Oper} {w0 : World} {A : Act} {o : Oper} {l : List Oper} (h1 : PureStep Tryd.prog w0 A o) (hr : runsG gs ops o = true) (h2 : AllG gs ops w0 A l) : AllG gs ops w0 A (o :: l) := ⟨fun _ => h1, fun h => absurd (hr.symm.trans h) (by decide), h2⟩
theorem allG_skip {gs : List (Nat × Bool)} {ops : Array Oper} {w0 : World} {A : Act} {o : Oper} {l : List Oper} (hr : runsG gs ops o = false) (h1 : gd A (o.dst.getD 0) = undef) (h2 : AllG gs ops w0 A l) : AllG gs ops w0 A (o :: l) := ⟨fun h => absurd (hr.symm.trans h) (by decide), fun _ => h1, h2⟩

theorem region_lastG {md : Region.Mode} {ops : Array Oper} {Q : Exit → Act → World → Prop} (l : List (Nat × Value)) (gs : List (Nat × Bool)) (a0 : Act) (w0 : World) (hwell : wellLastG gs md ops l = true)
    (hdst : (ops.toList.all fun o => match o.dst with | some d => decide (d < a0.tmps.size) | none => true) = true)
    (hgs : ∀ g ∈ gs, gd (putAll a0 l) g.1 = .bool g.2)
    (hall : AllG gs ops w0 (putAll a0 l) (ops.toList.take (ops.size - 1)))
    (last : Oper) (hl : ops[ops.size - 1]? = some last)
    (hlast' : ∀ (os : Array Obj) (d : Nat), last.wp Tryd.prog (putAll a0 l) (plus w0 os d) (fun a w => Q .normal a w) Q) :
    wpAny Tryd.prog md ops Q ops.size (Array.replicate ops.size false) a0 w0 := by
  have hsteps : ∀ (i : Nat) (o : Oper), i + 1 < ops.size → ops[i]? = some o → (runsG gs ops o = true → PureStep Tryd.prog w0 (putAll a0 l) o) ∧ (runsG gs ops o = false → gd (putAll a0 l) (o.dst.getD 0) = undef) := by
    intro i o hi ho
    refine allG_mem _ hall o ?_
    refine List.mem_of_getElem? (i := i) ?_
    rw [List.getElem?_take, if_pos (by omega)]
    simpa using ho
  have hlast : ∀ (o : Oper) (os : Array Obj) (d : Nat), ops[ops.size - 1]? = some o → o.wp Tryd.prog (putAll a0 l) (plus w0 os d) (fun a w => Q .normal a w) Q := by
    intro o os d ho
    rw [hl] at ho
    obtain rfl := Option.some.inj ho
    exact hlast' os d
  clear hall
  have hpos : 0 < ops.size := by
    have := hwell; unfold wellLastG at this; simp only [Bool.and_eq_true, decide_eq_true_eq] at this; exact this.1.1
  have hin : ∀ x ∈ l, ∃ i o, i + 1 < ops.size ∧ ops[i]? = some o ∧ o.dst = some x.1 := by
    intro x hx
    have := hwell; unfold wellLastG at this; simp only [Bool.and_eq_true] at this
    have h1 := List.all_eq_true.1 this.1.2 x hx
    obtain ⟨i, hi, h2⟩ := List.any_eq_true.1 h1
    have hi' := List.mem_range.1 hi
    rw [Array.getElem?_eq_getElem (show i < ops.size by omega)] at h2
    exact ⟨i, ops[i], by omega, Array.getElem?_eq_getElem _, by simpa using h2⟩
  have hfalse : ∀ (listed : Array Bool) (i : Nat), listed.size = ops.size → i < ops.size → listed.getD i true = false → listed[i]? = some false := by
    intro listed i hs hi hif
    rw [Array.getD_eq_getD_getElem?] at hif
    cases hcc : listed[i]? with
    | none => rw [hcc] at hif; simp at hif
    | some x => rw [hcc] at hif; simp at hif; rw [hif]
  -- where all that the last waits for has come up, all has
  have hdown : ∀ (listed : Array Bool) (a : Act) (w : World), ComeL md ops (putAll a0 l) a0 w0 Q listed a w → (∀ o, ops[ops.size - 1]? = some o → ∀ e ∈ o.after, Region.binds md e = true → listed.getD e.on false = true) →
      ∀ n i, i + 1 < ops.size → ops.size ≤ i + 1 + n → listed.getD i false = true := by
    intro listed a w hI hl n
    induction n with
    | zero => intro i h1 h2; omega
    | succ n ih =>
      intro i h1 h2
      have ho : ops[i]? = some ops[i] := Array.getElem?_eq_getElem (by omega)
      obtain ⟨_, j, oj, hj, hij, e, he, hb, hon⟩ := (wellLastG_op hwell ho).2.2.1 h1
      have hjs := (Array.getElem?_eq_some_iff.1 hj).1
      subst hon
      by_cases hjl : j + 1 = ops.size
      · exact hl oj (by rw [show ops.size - 1 = j by omega]; exact hj) e he hb
      · exact hI.closed j oj hj (ih j (by omega) (by omega)) e he hb
  refine wpAny_inv (ComeL md ops (putAll a0 l) a0 w0 Q) ?_ ?_ ops.size _ a0 w0 ?_ ?_
  · intro listed a w i hI hi
    obtain ⟨hil, hif, hia⟩ := ready_mem hi
    have ho : ops[i]? = some ops[i] := Array.getElem?_eq_getElem hil
    generalize ops[i] = o at ho
    obtain ⟨hg, hon, hmid, hothers⟩ := wellLastG_op hwell ho
    rw [ho] at hia
    simp only [Option.map_some, Option.getD_some] at hia
    have hafter : ∀ e ∈ o.after, Region.binds md e = true → listed.getD e.on false = true := by
      intro e he hb
      obtain ⟨k, hk, rfl⟩ := Array.mem_iff_getElem.1 he
      have := Array.all_eq_true.1 hia k hk
      simp only [Bool.or_eq_true, Bool.not_eq_true'] at this
      rcases this with h | h
      · rw [hb] at h; cases h
      · exact h
    have hsi := hfalse listed i hI.size hil hif
    have hclosed : ∀ (j : Nat) (oj : Oper), ops[j]? = some oj → (listed.setIfInBounds i true).getD j false = true → ∀ e ∈ oj.after, Region.binds md e = true → (listed.setIfInBounds i true).getD e.on false = true := by
      intro j oj hj hl e he hb
      rw [Array.getD_eq_getD_getElem?, Array.getElem?_setIfInBounds] at hl ⊢
      by_cases hij : i = j
      · subst hij
        have : oj = o := Option.some.inj (hj.symm.trans ho)
        subst this
        have := hafter e he hb
        rw [Array.getD_eq_getD_getElem?] at this
        split
        · split <;> simp_all
        · exact this
      · rw [if_neg hij] at hl
        have := hI.closed j oj hj (by rw [Array.getD_eq_getD_getElem?]; exact hl) e he hb
        rw [Array.getD_eq_getD_getElem?] at this
        split
        · split <;> simp_all
        · exact this
    unfold wpOp
    rw [ho]
    simp only []
    by_cases hlastq : i + 1 = ops.size
    · have hw : Region.wanted o (yielded ops a.tmps) = true := by simp [Region.wanted, hg.2 hlastq]
      simp only [hw, if_true]
      have hopen : listed.getD (ops.size - 1) false = false := by
        rw [show ops.size - 1 = i by omega, Array.getD_eq_getD_getElem?, hsi]; rfl
      obtain ⟨h1, h2, h3, h4, os, d, rfl⟩ := hI.open_ hopen
      have hall := fun i' h => hdown listed a _ hI (fun o' ho' => by
        have : o' = o := by rw [show ops.size - 1 = i by omega, ho] at ho'; exact (Option.some.inj ho').symm
        subst this; exact hafter) ops.size i' h (by omega)
      have hact : a = putAll a0 l := by
        have ht : a.tmps = (putAll a0 l).tmps := by
          apply Array.ext
          · rw [h2, putAll_size]
          · intro t ht1 ht2
            have hg1 : a.tmps[t] = gd a t := by simp [gd, Array.getD, ht1]
            have hg2 : (putAll a0 l).tmps[t] = gd (putAll a0 l) t := by simp [gd, Array.getD, ht2]
            rw [hg1, hg2]
            by_cases hx : ∃ (j : Nat) (oj : Oper), j + 1 < ops.size ∧ ops[j]? = some oj ∧ oj.dst = some t
            · obtain ⟨j, oj, hjl, hj, hjt⟩ := hx
              exact h4 j oj t hjl hj (hall j hjl) hjt
            · have hx' : ∀ (j : Nat) (o : Oper), j + 1 < ops.size → ops[j]? = some o → o.dst ≠ some t := fun j oj hjl hj h => hx ⟨j, oj, hjl, hj, h⟩
              rw [h3 t (fun j o hjl hj _ => hx' j o hjl hj)]
              refine (putAll_other l a0 (fun x hxl he => ?_)).symm
              obtain ⟨i', o', hil', ho', hd'⟩ := hin x hxl
              exact hx' i' o' hil' ho' (by rw [hd', he])
        cases a
        simp only at ht h1
        have hd := putAll_defers l a0
        cases hA : putAll a0 l
        rw [hA] at ht hd
        simp only at ht hd
        subst ht
        rw [h1, hd]
      refine .inl ?_
      rw [hact]
      refine Oper.wp_mono (fun a' w' h' => ?_) (hlast o os d (by rw [show ops.size - 1 = i by omega]; exact ho))
      refine ⟨by simpa using hI.size, hclosed, fun hn => ?_, fun _ => h'⟩
      exfalso
      rw [show ops.size - 1 = i by omega, Array.getD_eq_getD_getElem?, Array.getElem?_setIfInBounds, if_pos rfl, if_pos (by rw [hI.size]; exact hil)] at hn
      simp at hn
    · have hopen : listed.getD (ops.size - 1) false = false := by
        cases hc : listed.getD (ops.size - 1) false with
        | false => rfl
        | true =>
          exfalso
          have hlo : ops[ops.size - 1]? = some ops[ops.size - 1] := Array.getElem?_eq_getElem (by omega)
          have := hdown listed a w hI (fun o' ho' => hI.closed _ o' ho' hc) ops.size i (by omega) (by omega)
          rw [Array.getD_eq_getD_getElem?, hsi] at this
          cases this
      obtain ⟨h1, h2, h3, h4, os, d, rfl⟩ := hI.open_ hopen
      obtain ⟨⟨dd, hd⟩, _⟩ := hmid (by omega)
      have hreads : ∀ t ∈ readsL o, gd a t = gd (putAll a0 l) t := by
        intro t ht
        by_cases hx : ∃ (j : Nat) (oj : Oper), j + 1 < ops.size ∧ ops[j]? = some oj ∧ oj.dst = some t
        · obtain ⟨j, oj, hjl, hj, hjt⟩ := hx
          obtain ⟨e, he, hb, rfl⟩ := (hothers j oj hjl hj).2 t ht hjt
          exact h4 _ oj t hjl hj (hafter e he hb) hjt
        · have hx' : ∀ (j : Nat) (o : Oper), j + 1 < ops.size → ops[j]? = some o → o.dst ≠ some t := fun j oj hjl hj h => hx ⟨j, oj, hjl, hj, h⟩
          rw [h3 t (fun j o hjl hj _ => hx' j o hjl hj)]
          refine (putAll_other l a0 (fun x hxl he => ?_)).symm
          obtain ⟨i', o', hil', ho', hd'⟩ := hin x hxl
          exact hx' i' o' hil' ho' (by rw [hd', he])
      have hw : Region.wanted o (yielded ops a.tmps) = runsG gs ops o := wanted_runs hg.1 hgs (fun k ok t hk hok ht he => by
        obtain ⟨e, he, hb, rfl⟩ := he
        exact h4 _ ok t hk hok (hafter e he hb) ht)
      have hfin : ∀ os' d', ComeL md ops (putAll a0 l) a0 w0 Q (listed.setIfInBounds i true) (a.put o.dst (gd (putAll a0 l) (o.dst.getD 0))) (plus w0 os' d') := by
        intro os' d'
        have hdl : dd < a0.tmps.size := by
          have := List.all_eq_true.1 hdst o (List.mem_of_getElem? (by simpa using ho))
          rw [hd] at this
          simpa using this
        have hput : a.put o.dst (gd (putAll a0 l) (o.dst.getD 0)) = { a with tmps := a.tmps.setIfInBounds dd (gd (putAll a0 l) dd) } := by rw [hd]; rfl
        rw [hput]
        have hgd : ∀ t, gd { a with tmps := a.tmps.setIfInBounds dd (gd (putAll a0 l) dd) } t = if dd = t then gd (putAll a0 l) dd else gd a t := by
          intro t
          show (a.tmps.setIfInBounds dd (gd (putAll a0 l) dd)).getD t undef = _
          rw [Array.getD_eq_getD_getElem?, Array.getElem?_setIfInBounds]
          by_cases hdt : dd = t
          · rw [if_pos hdt, if_pos hdt, if_pos (by rw [h2]; exact hdl)]; rfl
          · rw [if_neg hdt, if_neg hdt]; simp [gd, Array.getD_eq_getD_getElem?]
        have hset : ∀ j, j ≠ i → (listed.setIfInBounds i true).getD j false = listed.getD j false := by
          intro j hj
          rw [Array.getD_eq_getD_getElem?, Array.getElem?_setIfInBounds, if_neg (fun e => hj e.symm), ← Array.getD_eq_getD_getElem?]
        refine ⟨by simpa using hI.size, hclosed, fun hn => ⟨h1, by simpa using h2, fun t ht => ?_, fun j oj s hjl hj hl hs => ?_, os', d', rfl⟩, fun hn => ?_⟩
        · have hne : dd ≠ t := by
            intro h
            refine ht i o (by omega) ho ?_ (by rw [hd, h])
            rw [Array.getD_eq_getD_getElem?, Array.getElem?_setIfInBounds, if_pos rfl, if_pos (by rw [hI.size]; exact hil)]; rfl
          rw [hgd, if_neg hne]
          refine h3 t (fun j oj hjl hj hl => ht j oj hjl hj ?_)
          by_cases hji : j = i
          · subst hji
            rw [Array.getD_eq_getD_getElem?, Array.getElem?_setIfInBounds, if_pos rfl, if_pos (by rw [hI.size]; exact hil)]; rfl
          · rw [hset j hji]; exact hl
        · rw [hgd]
          by_cases hji : j = i
          · subst hji
            have : oj = o := Option.some.inj (hj.symm.trans ho)
            subst this
            have : dd = s := Option.some.inj (hd.symm.trans hs)
            rw [if_pos this, this]
          · have hne : dd ≠ s := by
              intro h
              rcases (hothers j oj hjl hj).1 with h1 | h1 | h1
              · exact hji h1.symm
              · exact hlastq h1
              · exact h1 (by rw [hs, hd, h])
            rw [if_neg hne]
            rw [hset j hji] at hl
            exact h4 j oj s hjl hj hl hs
        · exfalso
          rw [hset _ (by omega), hopen] at hn
          cases hn
      obtain ⟨hs1, hs2⟩ := hsteps i o (by omega) ho
      cases hr : runsG gs ops o
      · simp only [hw, hr, Bool.false_eq_true, if_false]
        have := hfin os d
        rw [hs2 hr] at this
        exact this
      · simp only [hw, hr, if_true]
        exact .inl (hs1 hr a os d _ Q hreads hfin)
  · intro listed a w hI hnone
    refine hI.shut ?_
    have hall : ∀ i, i < ops.size → listed.getD i false = true := by
      intro i
      induction i using Nat.strongRecOn with
      | _ i ih =>
        intro hi
        cases hl : listed.getD i false with
        | true => rfl
        | false =>
          exfalso
          have ho : ops[i]? = some ops[i] := Array.getElem?_eq_getElem hi
          obtain ⟨_, hon, _⟩ := wellLastG_op hwell ho
          have : i ∈ Region.ready md ops listed := by
            unfold Region.ready
            rw [List.mem_filter]
            refine ⟨List.mem_range.2 hi, ?_⟩
            have hlt : listed.getD i true = false := by
              rw [Array.getD_eq_getD_getElem?] at hl ⊢
              have : i < listed.size := by rw [hI.size]; exact hi
              rw [Array.getElem?_eq_getElem this] at hl ⊢
              simpa using hl
            rw [hlt, ho]
            simp only [Bool.not_false, Option.map_some, Option.getD_some, Bool.true_and, Array.all_eq_true]
            intro k hk
            cases hb : Region.binds md ops[i].after[k] with
            | false => rfl
            | true =>
              have h1 := hon _ (Array.getElem_mem hk) hb
              rw [ih _ h1 (by omega)]
              rfl
          rw [hnone] at this
          cases this
    exact hall _ (by omega)
  · unfold leftOver
    refine Nat.le_trans (List.length_filter_le _ _) ?_
    simp
  · have hno : ∀ j, (Array.replicate ops.size false).getD j false = false := by
      intro j
      rw [Array.getD_eq_getD_getElem?, Array.getElem?_replicate]
      split <;> rfl
    refine ⟨by simp, fun j o hj hl => ?_, fun _ => ⟨rfl, rfl, fun _ _ => rfl, fun j o d _ hj hl => ?_, #[], w0.drawn, plus_id.symm⟩, fun hl => ?_⟩
    · rw [hno] at hl; cases hl
    · rw [hno] at hl; cases hl
    · rw [hno] at hl; cases hl

end Go.Proofs.YtnanipehcikcjaaDoor
