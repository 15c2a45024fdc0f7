/-
  Lists of claims whose rows lie in blocks of their own; what becomes of them. Conditions: those that each theorem states.
-/
import Derived.Test.YtlahgikhndjfoaaClD
namespace Go.Proofs.Ytlahgikhndjfoaa
open Go.RowKit

/-- A list of claims of the call's own, whose rows lie one behind the other. -/
structure CR (w : World) (B : Nat) (v : Value) (n : Nat) (us : List Value) (rs : List (List Int)) : Prop where
  row : w.ownsRow B 34 2 v n us
  len : rs.length = n * 2
  rows : ∀ i, i < n * 2 → Own w B (us.getD i undef) (rs.getD i [])
  sep : ∀ i j g g', i < j → j < n * 2 → (us.getD i undef).ownBlock = some g → (us.getD j undef).ownBlock = some g' → g < g'
section
variable {w w' : World} {B b : Nat} {u v : Value} {n : Nat} {us : List Value} {rs : List (List Int)}
theorem CR.ownC (h : CR w B v n us rs) : OwnC w B v n rs := ⟨us, h.row, h.len, h.rows⟩
theorem CR.made (w : World) (B : Nat) (hB : B ≤ w.heap.size) : CR (w.alloc (.cells #[] 34)) B (.slice (some ⟨w.heap.size, 0, none⟩) 0 0) 0 [] [] :=
  ⟨World.ownsRow_lit w #[] 0 hB (Nat.zero_le _) (by simp), rfl, fun i hi => by omega, fun i j _ _ _ hj => by omega⟩
theorem CR.setb (h : CR w B v n us rs) {r i : Nat} (hr : r < B) (x : Value) : CR (w.setCell ⟨r, i, none⟩ x) B v n us rs :=
  ⟨ownsRow_setCell_below h.row hr x, h.len, fun i hi => (h.rows i hi).setb hr x, h.sep⟩
theorem CR.below (h : CR w B v n us rs) (hb : Below w.heap.size w w') : CR w' B v n us rs :=
  ⟨ownsRow_below h.row hb, h.len, fun i hi => (h.rows i hi).below hb, h.sep⟩
theorem CR.alloc (h : CR w B v n us rs) (o : Obj) : CR (w.alloc o) B v n us rs := h.below ((Below.refl _ _).alloc (Nat.le_refl _) o)
theorem CR.drw (h : CR w B v n us rs) (d : Nat) : CR (Proofs.Ytlahgikhndjfoaa.drw w d) B v n us rs := ⟨h.row, h.len, h.rows, h.sep⟩
theorem CR.reader {q : Value} (h : CR w B v n us rs) (hb : b < B) (hw : Below w.heap.size (w.setCell ⟨b, 1, none⟩ q) w') : CR w' B v n us rs :=
  (h.setb hb q).below (hw.mono (by simp))
theorem CR.lt (h : CR w B v n us rs) {i g : Nat} (hi : i < n * 2) (hg : (us.getD i undef).ownBlock = some g) : g < w.heap.size := ((h.rows i hi).lt g hg).2
end

/-- append(list, claim). -/
theorem wpList_appC {ops : Array Oper} {rest : List Oper} {o : Oper} {a : Act} {w : World} {Q : Exit → Act → World → Prop} (hgd : o.guard = none) (s x : Operand)
    (ho : o.op = .call { callee := .builtin .append, args := #[s, x], argTypes := #[23, 23] }) (B : Nat) (v : Value) (n : Nat) (us : List Value) (rs : List (List Int)) (hs : a.eval s = v) (hown : CR w B v n us rs) (b i S1 S2 : Nat)
    (a1 a2 : Option Addr) (n1 c1 n2 c2 : Nat) (z1 z2 : List Int) (h1 : Own w B (.slice a1 n1 c1) z1) (h2 : Own w B (.slice a2 n2 c2) z2)
    (hS0 : ∀ i g, i < n * 2 → (us.getD i undef).ownBlock = some g → g < S1) (hS1 : ∀ g, (Value.slice a1 n1 c1).ownBlock = some g → S1 ≤ g ∧ g < S2) (hS2 : ∀ g, (Value.slice a2 n2 c2).ownBlock = some g → S2 ≤ g) (hS : S1 ≤ S2)
    (hx : a.eval x = .slice (some ⟨b, i, none⟩) 1 1) (hy0 : w.cell? ⟨b, i, none⟩ = some (.slice a1 n1 c1)) (hy1 : w.cell? ⟨b, i + 1, none⟩ = some (.slice a2 n2 c2)) (hlen : n ≤ 1000000) (hB : B ≤ w.heap.size)
    (h : ∀ v' w', CR w' B v' (n + 1) (us ++ [.slice a1 n1 c1, .slice a2 n2 c2]) (rs ++ [z1, z2]) → w.grownBy w' v.ownBlock → wpList Try.prog ops Q rest (a.put o.dst v') w') : wpList Try.prog ops Q (o :: rest) a w := by
  obtain ⟨i0, hi, hz0, hz1, hz2⟩ := info_parts infoC
  refine wpList_append_own _ hgd s x 23 ho B 34 i0 _ 2 48 Try.underlying23 hi hz0 hz1 hz2 rfl (by decide) v n _ hs hown.row ⟨b, i, none⟩ 1 1 [.slice a1 n1 c1, .slice a2 n2 c2] hx rfl ?_ ?_ ?_ ?_ hB ?_
  · intro j u hj
    match j, hj with
    | 0, hj => simp at hj; subst hj; simpa [Addr.add] using hy0
    | 1, hj => simp at hj; subst hj; simpa [Addr.add] using hy1
  · intro u hu; simp at hu; rcases hu with rfl | rfl <;> rfl
  · unfold maxLen; omega
  · omega
  · intro v' w' g1 g2 _
    have hl : us.length = n * 2 := hown.row.1
    have hgA : ∀ i, i < n * 2 → (us ++ [Value.slice a1 n1 c1, .slice a2 n2 c2]).getD i undef = us.getD i undef := fun i hi => by
      simp only [List.getD_eq_getElem?_getD, List.getElem?_append_left (show i < us.length by omega)]
    have hgB : (us ++ [Value.slice a1 n1 c1, .slice a2 n2 c2]).getD (n * 2) undef = .slice a1 n1 c1 := by
      simp only [List.getD_eq_getElem?_getD, List.getElem?_append_right (show us.length ≤ n * 2 by omega), hl, Nat.sub_self]; rfl
    have hgC : (us ++ [Value.slice a1 n1 c1, .slice a2 n2 c2]).getD (n * 2 + 1) undef = .slice a2 n2 c2 := by
      simp only [List.getD_eq_getElem?_getD, List.getElem?_append_right (show us.length ≤ n * 2 + 1 by omega), hl, Nat.add_sub_cancel_left]; rfl
    have hrA : ∀ i, i < n * 2 → (rs ++ [z1, z2]).getD i [] = rs.getD i [] := fun i hi => by
      simp only [List.getD_eq_getElem?_getD, List.getElem?_append_left (show i < rs.length by rw [hown.len]; omega)]
    have hrB : (rs ++ [z1, z2]).getD (n * 2) [] = z1 := by
      simp only [List.getD_eq_getElem?_getD, List.getElem?_append_right (show rs.length ≤ n * 2 by rw [hown.len]; omega), hown.len, Nat.sub_self]; rfl
    have hrC : (rs ++ [z1, z2]).getD (n * 2 + 1) [] = z2 := by
      simp only [List.getD_eq_getElem?_getD, List.getElem?_append_right (show rs.length ≤ n * 2 + 1 by rw [hown.len]; omega), hown.len, Nat.add_sub_cancel_left]; rfl
    refine h v' w' ⟨g1, by simp [hown.len]; omega, fun i hi => ?_, fun i j g g' hij hj e1 e2 => ?_⟩ g2
    · by_cases k1 : i < n * 2
      · rw [hgA i k1, hrA i k1]; exact (hown.rows i k1).beside hown.row g2
      · by_cases k2 : i = n * 2
        · rw [k2, hgB, hrB]; exact h1.beside hown.row g2
        · rw [show i = n * 2 + 1 by omega, hgC, hrC]; exact h2.beside hown.row g2
    · by_cases k1 : j < n * 2
      · rw [hgA i (by omega)] at e1
        rw [hgA j k1] at e2
        exact hown.sep i j g g' hij k1 e1 e2
      · by_cases k2 : j = n * 2
        · subst k2
          rw [hgA i (by omega)] at e1
          rw [hgB] at e2
          have := hS0 i g (by omega) e1
          have := hS1 g' e2
          omega
        · obtain rfl : j = n * 2 + 1 := by omega
          rw [hgC] at e2
          have := hS2 g' e2
          by_cases k3 : i < n * 2
          · rw [hgA i k3] at e1
            have := hS0 i g k3 e1
            omega
          · obtain rfl : i = n * 2 := by omega
            rw [hgB] at e1
            have := hS1 g e1
            omega

/-- A number of a row is set. -/
theorem Own.poke {w : World} {B g i : Nat} {u : Value} {zs : List Int} {cur : Array Value} {f : Nat × Nat} (h : Own w B u zs) (hg : w.heap[g]? = some (.cells cur 3 f)) (y : Int) :
    ∃ zs' : List Int, zs'.length = zs.length ∧ Own (w.setCell ⟨g, i, none⟩ (.int .i64 y)) B u zs' := by
  by_cases hu : u.ownBlock = some g
  · rcases h.2 with ⟨rfl, h0⟩ | ⟨g', cap, cur', rfl, _⟩
    · simp [Value.ownBlock] at hu
    · simp [Value.ownBlock] at hu
      subst hu
      refine ⟨zs.set i y, by simp, ?_⟩
      have := (World.ownsRow.stored h i (.int .i64 y)).1
      unfold Own
      rw [List.length_set, List.map_set]
      exact this
  · exact ⟨zs, rfl, ownsRow_setCell_other h hu _⟩
theorem CR.poke {w : World} {B g i n : Nat} {v : Value} {us : List Value} {rs : List (List Int)} {cur : Array Value} {f : Nat × Nat} (h : CR w B v n us rs) (hg : w.heap[g]? = some (.cells cur 3 f)) (y : Int) :
    ∃ rs', (∀ i, (rs'.getD i []).length = (rs.getD i []).length) ∧ OwnC (w.setCell ⟨g, i, none⟩ (.int .i64 y)) B v n rs' := by
  have hall : ∀ j, ∃ zs' : List Int, zs'.length = (rs.getD j []).length ∧ (j < n * 2 → Own (w.setCell ⟨g, i, none⟩ (.int .i64 y)) B (us.getD j undef) zs') := by
    intro j
    by_cases hj : j < n * 2
    · obtain ⟨zs', e1, e2⟩ := (h.rows j hj).poke (i := i) hg y
      exact ⟨zs', e1, fun _ => e2⟩
    · exact ⟨rs.getD j [], rfl, fun h => absurd h hj⟩
  obtain ⟨F, hF⟩ := Classical.axiomOfChoice hall
  have hget : ∀ j, j < n * 2 → ((List.range (n * 2)).map F).getD j [] = F j := fun j hj => by simp [hj]
  refine ⟨(List.range (n * 2)).map F, fun j => ?_, us, ?_, by simp, fun j hj => ?_⟩
  · by_cases hj : j < n * 2
    · rw [hget j hj]; exact (hF j).1
    · rw [List.getD_eq_getElem?_getD, List.getElem?_eq_none (by simp; omega), List.getD_eq_getElem?_getD, List.getElem?_eq_none (by rw [h.len]; omega)]
  · refine ownsRow_setCell_other h.row (fun e => ?_) _
    rcases h.row.2 with ⟨rfl, _⟩ | ⟨g', cap', cur', rfl, _, hg', _⟩
    · simp [Value.ownBlock] at e
    · simp [Value.ownBlock] at e
      subst e
      rw [hg] at hg'
      simp only [Option.some.injEq, Obj.cells.injEq] at hg'
      exact absurd hg'.2.1 (by decide)
  · rw [hget j hj]
    exact (hF j).2 hj
/-- What the second row of the first claim was is replaced by what it has grown to. -/
theorem CR.more {w w' : World} {B n gl m c : Nat} {us : List Value} {rs : List (List Int)} {u' : Value} {zs : List Int} (h : CR w B (.slice (some ⟨gl, 0, none⟩) m c) n us rs) (hn : 0 < n) (h' : Own w' B u' zs) (hg : w.grownBy w' (us.getD 1 undef).ownBlock) :
    OwnC (w'.setCell ⟨gl, 1, none⟩ u') B (.slice (some ⟨gl, 0, none⟩) m c) n (rs.set 1 zs) ∧ w'.grownBy (w'.setCell ⟨gl, 1, none⟩ u') (some gl) := by
  have hl : us.length = n * 2 := h.row.1
  have hrow' : w'.ownsRow B 34 2 (.slice (some ⟨gl, 0, none⟩) m c) n us := World.ownsRow.kept h.row hg (types_part (by decide) h.row (h.rows 1 (by omega)))
  have hmn : m = n := by
    rcases hrow'.2 with ⟨e, _⟩ | ⟨g', cap', cur', e, _⟩
    · simp at e
    · simp only [Value.slice.injEq] at e; exact e.2.1
  subst hmn
  have M := World.ownsRow.stored hrow' 1 u'
  refine ⟨⟨us.set 1 u', M.1, by simpa using h.len, fun i hi => ?_⟩, M.2⟩
  by_cases h1 : i = 1
  · subst h1
    rw [show (us.set 1 u').getD 1 undef = u' by simp [List.getD_eq_getElem?_getD, show 1 < us.length by omega], show (rs.set 1 zs).getD 1 [] = zs by simp [List.getD_eq_getElem?_getD, show 1 < rs.length by rw [h.len]; omega]]
    exact h'.beside hrow' M.2
  · rw [show (us.set 1 u').getD i undef = us.getD i undef by
        simp only [List.getD_eq_getElem?_getD, List.getElem?_set]; rw [if_neg (by omega)],
      show (rs.set 1 zs).getD i [] = rs.getD i [] by
        simp only [List.getD_eq_getElem?_getD, List.getElem?_set]; rw [if_neg (by omega)]]
    have hk : Own w' B (us.getD i undef) (rs.getD i []) := by
      refine World.ownsRow.kept (h.rows i hi) hg ?_
      cases e1 : (us.getD i undef).ownBlock with
      | none => exact .inl rfl
      | some g =>
        right
        intro e2
        rcases Nat.lt_or_ge i 1 with hlt | hge
        · have := h.sep i 1 g g hlt (by omega) e1 e2.symm
          omega
        · have := h.sep 1 i g g (by omega) hi e2.symm e1
          omega
    exact hk.beside hrow' M.2

end Go.Proofs.Ytlahgikhndjfoaa
