/-
  Parts of lists of pairs. No program in sight. No condition beyond those that each theorem states.
-/
import Derived.Test.YtfonccnpgedgfaaPrM
namespace Go.Proofs.Ytfonccnpgedgfaa

theorem take_at {zs : List Int} {k i : Nat} (h : i < k) : (zs.take k).getD i 0 = zs.getD i 0 := by
  rw [List.getD_eq_getElem?_getD, List.getElem?_take_of_lt h, ← List.getD_eq_getElem?_getD]
theorem drop_at {zs : List Int} {k i : Nat} : (zs.drop k).getD i 0 = zs.getD (k + i) 0 := by
  rw [List.getD_eq_getElem?_getD, List.getElem?_drop, ← List.getD_eq_getElem?_getD]
theorem take_pX {zs : List Int} {h j : Nat} (hj : j < h) : pX (zs.take (h * 2)) j = pX zs j ∧ pY (zs.take (h * 2)) j = pY zs j :=
  ⟨take_at (by omega), take_at (by omega)⟩
theorem drop_pX {zs : List Int} {h j : Nat} : pX (zs.drop (h * 2)) j = pX zs (h + j) ∧ pY (zs.drop (h * 2)) j = pY zs (h + j) := by
  unfold pX pY
  rw [drop_at, drop_at, show h * 2 + j * 2 = (h + j) * 2 by omega, show h * 2 + (j * 2 + 1) = (h + j) * 2 + 1 by omega]
  exact ⟨rfl, rfl⟩
/-- The error is the sum of those of two parts. -/
theorem err_split {zs : List Int} {o : Int} {m h : Nat} (hB : errB zs o m = true) (h1 : 1 ≤ h) (h2 : h < m) :
    errF zs o m = errF (zs.take (h * 2)) o h + errF (zs.drop (h * 2)) o (m - h) ∧ (0 ≤ errF (zs.take (h * 2)) o h ∧ errF (zs.take (h * 2)) o h ≤ 400000000) ∧ 0 ≤ errF (zs.drop (h * 2)) o (m - h) ∧ errF (zs.drop (h * 2)) o (m - h) ≤ 400000000 := by
  have hb := hB
  unfold errB at hb
  rw [Bool.and_eq_true] at hb
  have hp := pairsB_t.1 hb.1
  have ho := inB_t.1 hb.2
  have hm : (m : Int) ≤ 20 := by have := hp.1; omega
  have okT : ∀ j, j < h → okP (zs.take (h * 2)) j = true := fun j hj => by
    unfold okP; rw [(take_pX hj).1, (take_pX hj).2]; exact hp.2 j (by omega)
  have okD : ∀ j, j < m - h → okP (zs.drop (h * 2)) j = true := fun j hj => by
    unfold okP; rw [drop_pX.1, drop_pX.2]; exact hp.2 (h + j) (by omega)
  have pT : pairsB h (zs.take (h * 2)) = true := pairsB_t.2 ⟨by omega, okT⟩
  have pDd : pairsB (m - h) (zs.drop (h * 2)) = true := pairsB_t.2 ⟨by omega, okD⟩
  have e0 : errF zs o m = errS zs o m := by rw [errF, if_pos hB]
  have e1 : errF (zs.take (h * 2)) o h = errS (zs.take (h * 2)) o h := by rw [errF, errB, pT, hb.2]; rfl
  have e2 : errF (zs.drop (h * 2)) o (m - h) = errS (zs.drop (h * 2)) o (m - h) := by rw [errF, errB, pDd, hb.2]; rfl
  have b1 := errS_bd (o := o) okT ho.1 ho.2
  have b2 := errS_bd (o := o) okD ho.1 ho.2
  rw [e0, e1, e2]
  refine ⟨?_, by omega, by omega⟩
  have hs := sumN_split (fun j => (pD zs j - o) * (pD zs j - o)) h (m - h)
  rw [show h + (m - h) = m by omega] at hs
  unfold errS
  rw [hs]
  congr 1
  · refine sumN_congr fun j hj => ?_
    unfold pD
    rw [(take_pX hj).1, (take_pX hj).2]
  · refine sumN_congr fun j hj => ?_
    unfold pD
    rw [drop_pX.1, drop_pX.2]
theorem err_zero {zs : List Int} {o : Int} {m : Nat} (hB : errB zs o m = true) : (errF zs o m == 0) = allB (fun i => decide (pD zs i = o)) m := by
  have e0 : errF zs o m = errS zs o m := by rw [errF, if_pos hB]
  rw [e0]
  cases h : allB (fun i => decide (pD zs i = o)) m with
  | true =>
    have := allB_t.1 h
    simp only [beq_iff_eq]
    exact errS_zero.2 fun j hj => by simpa using this j hj
  | false =>
    simp only [beq_eq_false_iff_ne]
    intro h0
    have := errS_zero.1 h0
    rw [allB_t.2 (fun j hj => by simpa using this j hj)] at h
    cases h

end Go.Proofs.Ytfonccnpgedgfaa
