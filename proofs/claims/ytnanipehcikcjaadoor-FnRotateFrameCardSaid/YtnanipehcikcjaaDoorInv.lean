/-
  A law on a region that draws its order, by an invariant: what holds when some operations have come up is kept by each that may come up next. No condition.
-/
import Derived.Test.YtnanipehcikcjaaDoorCore
import Derived.RegionTactic
namespace Go.Proofs.YtnanipehcikcjaaDoor
open Go.RowKit

section
variable {P : Program} {ops : Array Oper} {Q : Exit → Act → World → Prop} {md : Region.Mode}

/-- How many have not come up. -/
def leftOver (listed : Array Bool) : Nat := (listed.toList.filter (fun b => !b)).length

theorem leftOver_set {listed : Array Bool} {i : Nat} (h : listed[i]? = some false) : leftOver (listed.setIfInBounds i true) + 1 = leftOver listed := by
  unfold leftOver
  obtain ⟨l⟩ := listed
  simp only [List.getElem?_toArray] at h
  simp only [List.setIfInBounds_toArray]
  induction l generalizing i with
  | nil => simp at h
  | cons x l ih =>
    cases i with
    | zero => simp at h; subst h; simp
    | succ i =>
      simp at h
      have := ih h
      simp only [List.set_cons_succ, List.filter_cons]
      split
      · simp only [List.length_cons]; omega
      · exact this

theorem ready_mem {listed : Array Bool} {i : Nat} (h : i ∈ Region.ready md ops listed) : i < ops.size ∧ listed.getD i true = false ∧ ((ops[i]?).map (·.after.all fun e => !Region.binds md e || listed.getD e.on false)).getD false = true := by
  unfold Region.ready at h
  rw [List.mem_filter] at h
  simp only [List.mem_range, Bool.and_eq_true, Bool.not_eq_true'] at h
  exact ⟨h.1, h.2.1, h.2.2⟩

/-- A REGION THAT DRAWS ITS ORDER, BY AN INVARIANT: what holds when some operations have come up is kept by each that may come up next. -/
theorem wpAny_inv (I : Array Bool → Act → World → Prop)
    (step : ∀ listed a w i, I listed a w → i ∈ Region.ready md ops listed → wpOp P ops Q i (fun a' w' => I (listed.setIfInBounds i true) a' w') a w)
    (done : ∀ listed a w, I listed a w → Region.ready md ops listed = [] → Q .normal a w) :
    ∀ (fuel : Nat) (listed : Array Bool) (a : Act) (w : World), leftOver listed ≤ fuel → I listed a w → wpAny P md ops Q fuel listed a w := by
  intro fuel
  induction fuel with
  | zero =>
    intro listed a w hf hI
    have hr : Region.ready md ops listed = [] := by
      rw [List.eq_nil_iff_forall_not_mem]
      intro i hi
      obtain ⟨_, h1, _⟩ := ready_mem hi
      have hs : listed[i]? = some false := by
        rw [Array.getD_eq_getD_getElem?] at h1
        cases hc : listed[i]? with
        | none => rw [hc] at h1; simp at h1
        | some b => rw [hc] at h1; simp at h1; rw [h1]
      have := leftOver_set hs
      omega
    exact ⟨hr, done _ _ _ hI hr⟩
  | succ n ih =>
    intro listed a w hf hI
    refine ⟨fun hr => done _ _ _ hI hr, fun i hi => ?_⟩
    refine wpOp_mono (fun a' w' h' => ih _ a' w' ?_ h') (step listed a w i hI hi)
    obtain ⟨_, h1, _⟩ := ready_mem hi
    have hs : listed[i]? = some false := by
      rw [Array.getD_eq_getD_getElem?] at h1
      cases hc : listed[i]? with
      | none => rw [hc] at h1; simp at h1
      | some b => rw [hc] at h1; simp at h1; rw [h1]
    have := leftOver_set hs
    omega
end

end Go.Proofs.YtnanipehcikcjaaDoor
