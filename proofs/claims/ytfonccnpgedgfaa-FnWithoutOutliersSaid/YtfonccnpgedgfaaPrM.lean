/-
  Lists of pairs that are made of other ones. No program in sight. No condition beyond those that each theorem states.
-/
import Derived.Test.YtfonccnpgedgfaaPrD
namespace Go.Proofs.Ytfonccnpgedgfaa

/-- The measured values, each with a value that f makes of the pair. -/
def mapL (f : Int → Int → Int) (zs : List Int) : Nat → List Int
  | 0 => []
  | j + 1 => mapL f zs j ++ [pX zs j, f (pX zs j) (pY zs j)]
theorem mapL_len (f : Int → Int → Int) (zs : List Int) : ∀ j, (mapL f zs j).length = j * 2
  | 0 => rfl
  | j + 1 => by rw [mapL, List.length_append, mapL_len f zs j]; simp; omega
theorem mapL_at (f : Int → Int → Int) (zs : List Int) : ∀ {n j : Nat}, j < n → pX (mapL f zs n) j = pX zs j ∧ pY (mapL f zs n) j = f (pX zs j) (pY zs j)
  | n + 1, j, h => by
    rw [mapL]
    by_cases e : j = n
    · subst e
      exact pX_new (mapL_len f zs j)
    · rw [(pX_old (mapL_len f zs n) (by omega)).1, (pX_old (mapL_len f zs n) (by omega)).2]
      exact mapL_at f zs (by omega)

/-- Where drawn pairs are valid. -/
theorem PrD.diff {n : Nat} {zs : List Int} (h : PrD n zs) (hp : pairsB n zs = true) : ∀ j, j < n → -1200 ≤ pD zs j ∧ pD zs j ≤ 1000 := by
  intro j hj
  have h1 := h.2 j hj
  have h2 := okP_t.1 ((pairsB_t.1 hp).2 j hj)
  unfold pD; omega
/-- The plain law on offsets. -/
theorem fit_law {n : Nat} {zs : List Int} (h : PrD n zs) (hp : pairsB n zs = true) : (-1200 ≤ fitG zs n ∧ fitG zs n ≤ 1000) ∧ errF zs (fitG zs n) n ≤ errF zs (fitG zs n - 1) n ∧ errF zs (fitG zs n) n ≤ errF zs (fitG zs n + 1) n ∧
    (pairsB n (mapL (fun _ y => y + 1) zs n) = true → fitF (mapL (fun _ y => y + 1) zs n) n = fitG zs n + 1) := by
  have hn : 0 < n := by have := (pairsB_t.1 hp).1; omega
  have hb := fitG_bd (zs := zs) hn (h.diff hp)
  have hE : ∀ o : Int, -1201 ≤ o → o ≤ 1001 → errF zs o n = errS zs o n := by
    intro o h1 h2
    rw [errF, errB, hp, inB_t.2 ⟨by omega, by omega⟩]; rfl
  have hbest := errS_best (zs := zs) hn
  refine ⟨hb, ?_, ?_, fun hm => ?_⟩
  · rw [hE _ (by omega) (by omega), hE _ (by omega) (by omega)]; exact hbest.1
  · rw [hE _ (by omega) (by omega), hE _ (by omega) (by omega)]; exact hbest.2
  · rw [fitF, if_pos hm]
    refine fitG_shift hn fun j hj => ?_
    obtain ⟨e1, e2⟩ := mapL_at (fun _ y => y + 1) zs hj
    unfold pD
    rw [e1, e2]; omega

end Go.Proofs.Ytfonccnpgedgfaa
