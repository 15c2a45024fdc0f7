/-
  The order in which robots can finish, in plain terms. No condition beyond those that each theorem states.
-/
import Derived.Test.YtlahgikhndjfoaaClV
namespace Go.Proofs.Ytlahgikhndjfoaa
open Go.RowKit

/-- The first number below n with the property. -/
def firstB (p : Nat → Bool) (n : Nat) : Option Nat := (List.range n).find? p
theorem firstB_some {p : Nat → Bool} {n i : Nat} : firstB p n = some i ↔ i < n ∧ p i = true ∧ ∀ j, j < i → p j = false := by
  unfold firstB
  rw [List.find?_range_eq_some]
  simp only [List.mem_range, Bool.not_eq_eq_eq_not, Bool.not_true]
  constructor
  · rintro ⟨h1, h2, h3⟩; exact ⟨h2, h1, h3⟩
  · rintro ⟨h1, h2, h3⟩; exact ⟨h2, h1, h3⟩
theorem firstB_none {p : Nat → Bool} {n : Nat} : firstB p n = none ↔ ∀ j, j < n → p j = false := by
  unfold firstB
  rw [List.find?_range_eq_none]
  simp

/-- There is as much as is needed. -/
def enB (zs now : List Int) : Bool := allB (fun j => decide (zs.getD j 0 ≤ now.getD j 0)) now.length
/-- Robot i has not finished and can. -/
def canB (rs : List (List Int)) (out : List Nat) (now : List Int) (i : Nat) : Bool := !out.contains i && enB (need rs i) now
def addL (now hs : List Int) : List Int := (List.range now.length).map fun j => now.getD j 0 + hs.getD j 0
theorem addL_length (now hs : List Int) : (addL now hs).length = now.length := by simp [addL]
theorem addL_getD {now hs : List Int} {j : Nat} (h : j < now.length) : (addL now hs).getD j 0 = now.getD j 0 + hs.getD j 0 := by simp [addL, h]
/-- After m robots (or as many as can). -/
def runO (rs : List (List Int)) (N : Nat) (fs : List Int) : Nat → List Nat × List Int
  | 0 => ([], fs)
  | m + 1 => match firstB (canB rs (runO rs N fs m).1 (runO rs N fs m).2) N with
    | some i => ((runO rs N fs m).1 ++ [i], addL (runO rs N fs m).2 (hold rs i))
    | none => runO rs N fs m
/-- Who can be next. -/
def nextO (rs : List (List Int)) (N : Nat) (fs : List Int) (m : Nat) : Option Nat := firstB (canB rs (runO rs N fs m).1 (runO rs N fs m).2) N
def orderO (rs : List (List Int)) (N : Nat) (fs : List Int) : List Nat := (runO rs N fs N).1
section
variable {rs : List (List Int)} {N : Nat} {fs : List Int} {m i : Nat}
theorem run_some (h : nextO rs N fs m = some i) : runO rs N fs (m + 1) = ((runO rs N fs m).1 ++ [i], addL (runO rs N fs m).2 (hold rs i)) := by
  unfold nextO at h
  rw [runO, h]
theorem run_none (h : nextO rs N fs m = none) : runO rs N fs (m + 1) = runO rs N fs m := by
  unfold nextO at h
  rw [runO, h]
theorem next_none (h : nextO rs N fs m = none) : nextO rs N fs (m + 1) = none := by
  have h1 := run_none h
  unfold nextO at h ⊢
  rw [h1, h]
theorem run_stuck (h : nextO rs N fs m = none) : ∀ k, runO rs N fs (m + k) = runO rs N fs m ∧ nextO rs N fs (m + k) = none
  | 0 => ⟨rfl, h⟩
  | k + 1 => by
    obtain ⟨h1, h2⟩ := run_stuck h k
    exact ⟨(run_none h2).trans h1, next_none h2⟩
theorem run_now : (runO rs N fs m).2.length = fs.length := by
  induction m with
  | zero => rfl
  | succ m ih =>
    cases h : nextO rs N fs m with
    | none => rw [run_none h, ih]
    | some i => rw [run_some h]; simp only [addL_length]; exact ih
theorem next_lt (h : nextO rs N fs m = some i) : i < N ∧ i ∉ (runO rs N fs m).1 ∧ enB (need rs i) (runO rs N fs m).2 = true := by
  obtain ⟨h1, h2, _⟩ := firstB_some.1 h
  unfold canB at h2
  simp only [Bool.and_eq_true, Bool.not_eq_true', List.contains_eq_mem, decide_eq_false_iff_not] at h2
  exact ⟨h1, h2.1, h2.2⟩
theorem run_nodup : (runO rs N fs m).1.Nodup ∧ ∀ i ∈ (runO rs N fs m).1, i < N := by
  induction m with
  | zero => simp [runO]
  | succ m ih =>
    cases h : nextO rs N fs m with
    | none => rw [run_none h]; exact ih
    | some i =>
      rw [run_some h]
      obtain ⟨h1, h2, _⟩ := next_lt h
      refine ⟨?_, fun j hj => ?_⟩
      · show List.Nodup ((runO rs N fs m).1 ++ [i])
        rw [List.nodup_append]
        refine ⟨ih.1, by simp, ?_⟩
        intro a ha b hb e
        simp at hb
        subst hb; subst e
        exact h2 ha
      · rcases List.mem_append.1 hj with hj | hj
        · exact ih.2 j hj
        · simp at hj; subst hj; exact h1
theorem run_len (h : nextO rs N fs m ≠ none) : (runO rs N fs m).1.length = m := by
  induction m with
  | zero => rfl
  | succ m ih =>
    cases h1 : nextO rs N fs m with
    | none => exact absurd (next_none h1) h
    | some i => rw [run_some h1]; simp only [List.length_append, List.length_singleton]; rw [ih (by rw [h1]; simp)]
theorem nodup_le : ∀ {n : Nat} {l : List Nat}, l.Nodup → (∀ i ∈ l, i < n) → l.length ≤ n
  | 0, l, _, h => by
    cases l with
    | nil => simp
    | cons a l => exact absurd (h a (by simp)) (by omega)
  | n + 1, l, hn, h => by
    by_cases hm : n ∈ l
    · have h1 := nodup_le (n := n) (l := l.erase n) (hn.erase n) (fun i hi => by
        have h2 := (List.Nodup.mem_erase_iff hn).1 hi
        have := h i h2.2
        have := h2.1
        omega)
      rw [List.length_erase_of_mem hm] at h1
      omega
    · have h1 := nodup_le (n := n) hn (fun i hi => by
        have := h i hi
        by_cases e : i = n
        · subst e; exact absurd hi hm
        · omega)
      omega
theorem run_le : (runO rs N fs m).1.length ≤ N := nodup_le run_nodup.1 run_nodup.2
theorem next_le (h : nextO rs N fs m = some i) : m + 1 ≤ N := by
  have h1 := run_len (m := m) (by rw [h]; simp)
  have h2 := run_le (rs := rs) (N := N) (fs := fs) (m := m + 1)
  rw [run_some h] at h2
  simp at h2
  omega
/-- In the end no other robot can finish. -/
theorem next_end : nextO rs N fs N = none := by
  cases h : nextO rs N fs N with
  | none => rfl
  | some i => have := next_le h; omega
theorem order_stuck (h : nextO rs N fs m = none) (hm : m ≤ N) : orderO rs N fs = (runO rs N fs m).1 := by
  have h1 := (run_stuck h (N - m)).1
  rw [show m + (N - m) = N by omega] at h1
  unfold orderO
  rw [h1]
/-- The order, step by step. -/
theorem order_at (hi : m < (orderO rs N fs).length) : ∃ h : m < (orderO rs N fs).length, nextO rs N fs m = some ((orderO rs N fs)[m]'h) ∧ (runO rs N fs m).1 = (orderO rs N fs).take m := by
  have hgen : ∀ k, (orderO rs N fs).length ≤ k → k ≤ N → (runO rs N fs k).1 = orderO rs N fs := by
    intro k h1 h2
    cases h : nextO rs N fs k with
    | none => exact (order_stuck h h2).symm
    | some i =>
      exfalso
      have h3 : ∀ d, nextO rs N fs (k + d) ≠ none → k + d ≤ N → (runO rs N fs (k + d)).1.length = k + d := fun d h _ => run_len h
      have h4 : ∀ d, k + 1 + d ≤ N → k + 1 ≤ (runO rs N fs (k + 1 + d)).1.length := by
        intro d
        induction d with
        | zero =>
          intro _
          rw [Nat.add_zero, run_some h]
          simp [run_len (m := k) (by rw [h]; simp)]
        | succ d ih =>
          intro hd
          have := ih (by omega)
          cases h5 : nextO rs N fs (k + 1 + d) with
          | none => rw [← Nat.add_assoc, run_none h5]; exact this
          | some j => rw [← Nat.add_assoc, run_some h5]; simp; omega
      have h6 := next_le h
      have h7 := h4 (N - (k + 1)) (by omega)
      rw [show k + 1 + (N - (k + 1)) = N by omega] at h7
      unfold orderO at h1
      omega
  have hN : (orderO rs N fs).length ≤ N := run_le
  -- not stuck at m
  have hns : nextO rs N fs m ≠ none := by
    intro h
    have h1 := order_stuck h (by omega)
    have h2 : (runO rs N fs m).1.length ≤ m := by
      have : ∀ k, (runO rs N fs k).1.length ≤ k := by
        intro k
        induction k with
        | zero => simp [runO]
        | succ k ih =>
          cases h5 : nextO rs N fs k with
          | none => rw [run_none h5]; omega
          | some j => rw [run_some h5]; simp; omega
      exact this m
    rw [← h1] at h2
    omega
  -- prefix
  have hpre : ∀ d, m + d ≤ N → ∃ l, (runO rs N fs (m + d)).1 = (runO rs N fs m).1 ++ l := by
    intro d
    induction d with
    | zero => intro _; exact ⟨[], by simp⟩
    | succ d ih =>
      intro hd
      obtain ⟨l, hl⟩ := ih (by omega)
      cases h5 : nextO rs N fs (m + d) with
      | none => exact ⟨l, by rw [← Nat.add_assoc, run_none h5, hl]⟩
      | some j => exact ⟨l ++ [j], by rw [← Nat.add_assoc, run_some h5]; simp [hl]⟩
  have hlen := run_len hns
  refine ⟨hi, ?_, ?_⟩
  · cases h : nextO rs N fs m with
    | none => exact absurd h hns
    | some i =>
      have hpre2 : ∀ d, m + 1 + d ≤ N → ∃ l, (runO rs N fs (m + 1 + d)).1 = ((runO rs N fs m).1 ++ [i]) ++ l := by
        intro d
        induction d with
        | zero => intro _; exact ⟨[], by rw [Nat.add_zero, run_some h]; simp⟩
        | succ d ih =>
          intro hd
          obtain ⟨l, hl⟩ := ih (by omega)
          cases h5 : nextO rs N fs (m + 1 + d) with
          | none => exact ⟨l, by rw [← Nat.add_assoc, run_none h5, hl]⟩
          | some j => exact ⟨l ++ [j], by rw [← Nat.add_assoc, run_some h5]; simp [hl]⟩
      obtain ⟨l, hl⟩ := hpre2 (N - (m + 1)) (by omega)
      rw [show m + 1 + (N - (m + 1)) = N by omega] at hl
      congr 1
      have e : orderO rs N fs = (runO rs N fs m).1 ++ [i] ++ l := hl
      have e2 : (orderO rs N fs)[m]? = some i := by
        rw [e, List.append_assoc, List.getElem?_append_right (by omega), hlen]; simp
      rw [List.getElem?_eq_getElem hi] at e2
      exact (Option.some.inj e2).symm
  · obtain ⟨l, hl⟩ := hpre (N - m) (by omega)
    rw [show m + (N - m) = N by omega] at hl
    have e : orderO rs N fs = (runO rs N fs m).1 ++ l := hl
    rw [e, List.take_append_of_le_length (by omega), List.take_of_length_le (by omega)]
theorem order_run_end : (runO rs N fs (orderO rs N fs).length).1 = orderO rs N fs ∧ nextO rs N fs (orderO rs N fs).length = none := by
  have hN : (orderO rs N fs).length ≤ N := run_le
  cases h : nextO rs N fs (orderO rs N fs).length with
  | none => exact ⟨(order_stuck h hN).symm, rfl⟩
  | some i =>
    exfalso
    have h6 := next_le h
    have h1 := run_len (m := (orderO rs N fs).length) (by rw [h]; simp)
    have h4 : ∀ d, (orderO rs N fs).length + 1 + d ≤ N → (orderO rs N fs).length + 1 ≤ (runO rs N fs ((orderO rs N fs).length + 1 + d)).1.length := by
      intro d
      induction d with
      | zero =>
        intro _
        rw [Nat.add_zero, run_some h]
        simp [h1]
      | succ d ih =>
        intro hd
        have := ih (by omega)
        cases h5 : nextO rs N fs ((orderO rs N fs).length + 1 + d) with
        | none => rw [← Nat.add_assoc, run_none h5]; exact this
        | some j => rw [← Nat.add_assoc, run_some h5]; simp; omega
    have h7 := h4 (N - ((orderO rs N fs).length + 1)) (by omega)
    rw [show (orderO rs N fs).length + 1 + (N - ((orderO rs N fs).length + 1)) = N by omega] at h7
    have : (runO rs N fs N).1 = orderO rs N fs := rfl
    rw [this] at h7
    omega
end

/-! ### more that is free -/
theorem sum_erase {f : Nat → Int} {a : Nat} : ∀ {l : List Nat}, a ∈ l → (l.map f).sum = f a + ((l.erase a).map f).sum
  | b :: l, h => by
    by_cases e : b = a
    · subst e; simp
    · have h1 : a ∈ l := by
        rcases List.mem_cons.1 h with h2 | h2
        · exact absurd h2.symm e
        · exact h2
      rw [List.erase_cons_tail (by simpa using e)]
      simp only [List.map_cons, List.sum_cons]
      rw [sum_erase h1]
      omega
theorem sum_sub {f : Nat → Int} : ∀ {l l' : List Nat}, l.Nodup → (∀ a ∈ l, a ∈ l') → (∀ a ∈ l', 0 ≤ f a) → (l.map f).sum ≤ (l'.map f).sum
  | [], l', _, _, h0 => by
    simp only [List.map_nil, List.sum_nil]
    induction l' with
    | nil => simp
    | cons b l' ih =>
      simp only [List.map_cons, List.sum_cons]
      have h1 := h0 b (by simp)
      have h2 := ih (fun a ha => absurd ha (by simp)) (fun a ha => h0 a (by simp [ha]))
      omega
  | a :: l, l', hn, hs, h0 => by
    have h1 := hs a (by simp)
    rw [sum_erase h1]
    simp only [List.map_cons, List.sum_cons]
    have hn2 := List.nodup_cons.1 hn
    have h2 := sum_sub (f := f) (l := l) (l' := l'.erase a) hn2.2 (fun b hb => by
      have h3 : b ≠ a := fun e => hn2.1 (e ▸ hb)
      exact (List.mem_erase_of_ne h3).2 (hs b (by simp [hb]))) (fun b hb => h0 b (List.mem_of_mem_erase hb))
    omega
theorem run_sum {rs : List (List Int)} {N : Nat} {fs : List Int} {m j : Nat} (hj : j < fs.length) : (runO rs N fs m).2.getD j 0 = fs.getD j 0 + ((runO rs N fs m).1.map (fun i => (hold rs i).getD j 0)).sum := by
  induction m with
  | zero => simp [runO]
  | succ m ih =>
    cases h : nextO rs N fs m with
    | none => rw [run_none h, ih]
    | some i =>
      rw [run_some h]
      simp only []
      rw [addL_getD (by rw [run_now]; exact hj), ih, List.map_append, List.sum_append]
      simp
      omega
/-- More that is free keeps all able to finish. -/
theorem order_more {rs : List (List Int)} {N : Nat} {fs fs' : List Int} (h0 : ∀ i, i < N → ∀ j, j < fs.length → 0 ≤ (hold rs i).getD j 0) (hl : fs'.length = fs.length) (hm : ∀ j, j < fs.length → fs.getD j 0 ≤ fs'.getD j 0)
    (h : (orderO rs N fs).length = N) : (orderO rs N fs').length = N := by
  have hall : ∀ k, k ≤ N → ∀ i ∈ (orderO rs N fs).take k, i ∈ orderO rs N fs' := by
    intro k
    induction k with
    | zero => intro _ i hi; simp at hi
    | succ k ih =>
      intro hk i hi
      have hk2 : k < (orderO rs N fs).length := by omega
      rw [List.take_succ_eq_append_getElem hk2] at hi
      rcases List.mem_append.1 hi with hi | hi
      · exact ih (by omega) i hi
      · simp at hi
        obtain ⟨_, h2, h3⟩ := order_at hk2
        rw [← hi] at h2
        obtain ⟨e1, e2, e3⟩ := next_lt h2
        have he := next_end (rs := rs) (N := N) (fs := fs')
        have hf := firstB_none.1 he i e1
        unfold canB at hf
        simp only [Bool.and_eq_false_iff, Bool.not_eq_false', List.contains_eq_mem, decide_eq_true_eq] at hf
        rcases hf with hf | hf
        · exact hf
        · exfalso
          have : enB (need rs i) (runO rs N fs' N).2 = true := by
            unfold enB
            rw [allB_t]
            intro j hj
            rw [run_now, hl] at hj
            unfold enB at e3
            have e4 := allB_t.1 e3 j (by rw [run_now]; exact hj)
            simp only [decide_eq_true_eq] at e4 ⊢
            rw [run_sum hj, h3] at e4
            rw [run_sum (by omega)]
            have s1 := sum_sub (f := fun i => (hold rs i).getD j 0) (l := (orderO rs N fs).take k) (l' := (runO rs N fs' N).1) (List.Nodup.sublist (List.take_sublist _ _) run_nodup.1) (ih (by omega)) (fun a ha => h0 a (run_nodup.2 a ha) j hj)
            have s2 := hm j hj
            omega
          rw [this] at hf
          cases hf
  have h1 := sum_sub (f := fun _ => 1) (l := orderO rs N fs) (l' := orderO rs N fs') run_nodup.1 (fun a ha => hall N (by omega) a (by rw [List.take_of_length_le (by omega)]; exact ha)) (fun _ _ => by omega)
  have h2 : ∀ l : List Nat, (l.map (fun _ => (1 : Int))).sum = l.length := by
    intro l
    induction l with
    | nil => rfl
    | cons a l ih => simp only [List.map_cons, List.sum_cons, ih, List.length_cons]; omega
  rw [h2, h2] at h1
  have h3 : (orderO rs N fs').length ≤ N := run_le
  omega

/-! ### valid claims -/
theorem small_at {zs : List Int} (h : smallB zs = true) {j : Nat} (hj : j < zs.length) : 0 ≤ zs.getD j 0 ∧ zs.getD j 0 ≤ 100 := by
  have := allB_t.1 h j hj
  unfold okN at this
  exact inB_t.1 this
theorem claims_t {n : Nat} {rs : List (List Int)} {fs : List Int} (h : claimsB n rs fs = true) : n ≤ 6 ∧ fs.length ≤ 4 ∧ smallB fs = true ∧ ∀ i, i < n → ((hold rs i).length = fs.length ∧ smallB (hold rs i) = true) ∧ (need rs i).length = fs.length ∧ smallB (need rs i) = true := by
  unfold claimsB at h
  simp only [Bool.and_eq_true, decide_eq_true_eq] at h
  obtain ⟨⟨⟨h1, h2⟩, h3⟩, h4⟩ := h
  refine ⟨h1, h2, h3, fun i hi => ?_⟩
  have := allB_t.1 h4 i hi
  unfold okC amtB at this
  simp only [Bool.and_eq_true, decide_eq_true_eq] at this
  exact this
theorem hold_small {n : Nat} {rs : List (List Int)} {fs : List Int} (h : claimsB n rs fs = true) {i j : Nat} (hi : i < n) (hj : j < fs.length) : 0 ≤ (hold rs i).getD j 0 ∧ (hold rs i).getD j 0 ≤ 100 := by
  obtain ⟨_, _, _, h4⟩ := claims_t h
  obtain ⟨⟨h5, h6⟩, _⟩ := h4 i hi
  exact small_at h6 (by omega)
theorem need_small {n : Nat} {rs : List (List Int)} {fs : List Int} (h : claimsB n rs fs = true) {i j : Nat} (hi : i < n) (hj : j < fs.length) : 0 ≤ (need rs i).getD j 0 ∧ (need rs i).getD j 0 ≤ 100 := by
  obtain ⟨_, _, _, h4⟩ := claims_t h
  obtain ⟨_, h5, h6⟩ := h4 i hi
  exact small_at h6 (by omega)
theorem now_bound {n : Nat} {rs : List (List Int)} {fs : List Int} (h : claimsB n rs fs = true) {j : Nat} (hj : j < fs.length) (m : Nat) : 0 ≤ (runO rs n fs m).2.getD j 0 ∧ (runO rs n fs m).2.getD j 0 ≤ 100 + 100 * (m : Int) := by
  induction m with
  | zero =>
    obtain ⟨_, _, h3, _⟩ := claims_t h
    have := small_at h3 hj
    simp only [runO]
    omega
  | succ m ih =>
    cases h5 : nextO rs n fs m with
    | none => rw [run_none h5]; omega
    | some i =>
      rw [run_some h5]
      simp only []
      rw [addL_getD (by rw [run_now]; exact hj)]
      have := hold_small h (next_lt h5).1 hj
      omega
/-- All robots can finish. -/
def safeB (n : Nat) (rs : List (List Int)) (fs : List Int) : Bool := claimsB n rs fs && decide ((orderO rs n fs).length = n)

end Go.Proofs.Ytlahgikhndjfoaa
