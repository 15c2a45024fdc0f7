/-
  The contract of the function that draws zones and points. No condition.
-/
import Derived.Test.YtfdpdhinigfpfaaZj
import Derived.Test.YtfdpdhinigfpfaaApp
import Derived.Deep.RegionWith
namespace Go.Proofs.Ytfdpdhinigfpfaa
open Go.RowKit

theorem wpList_app2L {ops : Array Oper} {rest : List Oper} {o : Oper} {a : Act} {w : World} {Q : Exit → Act → World → Prop} (s x : Operand)
    (ho : o.op = .call { callee := .builtin .append, args := #[s, x], argTypes := #[50, 50] }) (hgd : Region.wanted o (yielded ops a.tmps) = true) (B : Nat) (v : Value) (n : Nat) (zs : List Int) (hs : a.eval s = v) (hown : OwnG 36 2 w B v n zs) (b i : Nat) (y0 y1 : Int)
    (hx : a.eval x = .slice (some ⟨b, i, none⟩) 1 1) (hy0 : w.cell? ⟨b, i, none⟩ = some (.int .i64 y0)) (hy1 : w.cell? ⟨b, i + 1, none⟩ = some (.int .i64 y1)) (hlen : n ≤ 1000000000) (hB : B ≤ w.heap.size)
    (h : ∀ v' w', OwnG 36 2 w' B v' (n + 1) (zs ++ [y0, y1]) → w.grownBy w' v.ownBlock → (∀ g, v'.ownBlock = some g → v.ownBlock = some g ∨ g = w.heap.size) → wpList Try.prog ops Q rest (a.put o.dst v') w') : wpList Try.prog ops Q (o :: rest) a w := by
  obtain ⟨i0, hi, hz0, hz1, hz2⟩ := info_parts infoE
  refine wpList_wanted hgd fun K hK => wp_append_lies w s x 50 ho B 36 i0 _ 2 16 Try.underlying50 hi hz0 hz1 hz2 rfl (by decide) v n _ hs hown ⟨b, i, none⟩ 1 1 [.int .i64 y0, .int .i64 y1] hx rfl ?_ ?_ (by decide) (by unfold maxLen; omega) (by omega) hB _ rfl ?_
  · intro j u hj
    match j, hj with
    | 0, hj => simp at hj; subst hj; simpa [Addr.add] using hy0
    | 1, hj => simp at hj; subst hj; simpa [Addr.add] using hy1
  · intro u hu; simp at hu; rcases hu with rfl | rfl <;> rfl
  · intro g cap w' h1 h2 h3 _
    refine hK _ _ (h _ w' ?_ h2 ?_)
    · unfold OwnG
      simpa using h1
    · intro g' hg'
      simp only [Value.ownBlock, Option.some.injEq] at hg'
      subst hg'
      exact h3
theorem OwnG.kept' {T : TypeId} {k : Nat} {w w' : World} {B : Nat} {v : Value} {n : Nat} {zs : List Int} {r : Option Nat} (h : OwnG T k w B v n zs) (hg : w.grownBy w' r) (hne : ∀ g, r = some g → v.ownBlock ≠ some g) : OwnG T k w' B v n zs := by
  refine World.ownsRow.kept h hg ?_
  cases hv : v.ownBlock with
  | none => exact .inl rfl
  | some g => exact .inr (fun e => hne g e.symm (by rw [hv]))

/-- A store into a block that holds a point. -/
theorem BoxP.poke {w : World} {P : Nat} {x y : Int} (h : BoxP w P x y) (x' y' : Int) : BoxP ((w.setCell ⟨P, 0, none⟩ (.int .i64 x')).setCell ⟨P, 1, none⟩ (.int .i64 y')) P x' y' := by
  have h : w.heap[P]? = some (.cells #[.int .i64 x, .int .i64 y] 36 (0, 0)) := h
  show ((w.setCell ⟨P, 0, none⟩ (.int .i64 x')).setCell ⟨P, 1, none⟩ (.int .i64 y')).heap[P]? = _
  simp [World.setCell, Array.getElem?_modify, h]
theorem BoxP.setb {w : World} {P r i : Nat} {x y : Int} (h : BoxP w P x y) (hr : P ≠ r) (v : Value) : BoxP (w.setCell ⟨r, i, none⟩ v) P x y :=
  (Below.heap_setCell w ⟨r, i, none⟩ v P hr).trans h
theorem OwnG.setb' {T : TypeId} {k : Nat} {w : World} {B : Nat} {v : Value} {n : Nat} {zs : List Int} {r i : Nat} (h : OwnG T k w B v n zs) (hne : ∀ g, v.ownBlock = some g → g ≠ r) (u : Value) : OwnG T k (w.setCell ⟨r, i, none⟩ u) B v n zs :=
  ownsRow_setCell_other h (fun e => hne r e rfl) u

set_option maxHeartbeats 3000000 in
theorem drawFirstViolation_any (a : Option Addr) (n c : Nat) (w : World) (hb : Bytes w w.heap.size a n) (hnc : n ≤ c) (hcm : c ≤ maxLen) :
    Calls Try.prog 30 #[.slice a n c] w fun e w' => ∃ (m : Nat) (zs : List Int) (g c' : Nat) (k : Nat) (ps : List Int) (g2 c2 : Nat), k ≤ 8 ∧ e = .returned (.tuple #[.slice (some ⟨g, 0, none⟩) m c', .slice (some ⟨g2, 0, none⟩) k c2]) ∧ DrawnZ w g m c' zs w' ∧ OwnG 36 2 w' w.heap.size (.slice (some ⟨g2, 0, none⟩) k c2) k ps := by
  go_enter Try.func30, Try.ntmps30
  go_wp2_with (first | (go_at_call 39; apply Calls.mono; (focus (apply open_any; (focus (apply Bytes.later hb; repeat (first | with_reducible exact Below.refl _ _ | with_reducible apply below_alloc | with_reducible apply below_drw | with_reducible apply below_drew | with_reducible apply below_drewN | with_reducible apply below_plus | with_reducible apply below_set | (simp; done)))); exact hnc; exact hcm)); rintro e w1 ⟨n1, c1, hs1, hB1, rfl, rfl⟩))
  apply Calls.mono
  · apply l20Zones_any
    · (focus (repeat (first | with_reducible exact hr | (with_reducible apply Rd.base_at hs1 hB1; simp; done) | with_reducible apply Rd.plus | with_reducible apply Rd.drew | with_reducible apply Rd.drewN | with_reducible apply Rd.drw | with_reducible apply Rd.alloc | with_reducible apply Rd.set)))
    all_goals omega
  rintro e w1 ⟨m, zs, g, c', hP, rfl, hO, p1, hp0, hp1, os, d, rfl⟩
  have hr1 : Rd (w.alloc (.cells #[.slice a n1 c1, .int .i64 0] 78)) w.heap.size a n1 c1 0 := by (focus (repeat (first | with_reducible exact hr | (with_reducible apply Rd.base_at hs1 hB1; simp; done) | with_reducible apply Rd.plus | with_reducible apply Rd.drew | with_reducible apply Rd.drewN | with_reducible apply Rd.drw | with_reducible apply Rd.alloc | with_reducible apply Rd.set)))
  have hr := (hr1.set p1).plus os d
  have HO := Lib.hid (hO.more (B' := w.heap.size + 1) (by simp))
  have HBW := Lib.hid (show Below w.heap.size w (plus ((w.alloc (.cells #[.slice a n1 c1, .int .i64 0] 78)).setCell ⟨w.heap.size, 1, none⟩ (.int .i64 p1)) os d) by repeat (first | with_reducible exact Below.refl _ _ | with_reducible apply below_alloc | with_reducible apply below_drw | with_reducible apply below_drew | with_reducible apply below_drewN | with_reducible apply below_plus | with_reducible apply below_set | (simp; done)))
  clear hO hr1
  generalize plus ((w.alloc (.cells #[.slice a n1 c1, .int .i64 0] 78)).setCell ⟨w.heap.size, 1, none⟩ (.int .i64 p1)) os d = W1 at hr HO HBW ⊢
  go_wp2_with fail
  apply Calls.mono
  · apply l20Point_any
    · (focus (repeat (first | with_reducible exact hr | (with_reducible apply Rd.base_at hs1 hB1; simp; done) | with_reducible apply Rd.plus | with_reducible apply Rd.drew | with_reducible apply Rd.drewN | with_reducible apply Rd.drw | with_reducible apply Rd.alloc | with_reducible apply Rd.set)))
    all_goals omega
  rintro e w2 ⟨x, y, hxy, rfl, p2, hq0, hq1, os2, d2, rfl⟩
  have HR1 := Lib.hid hr
  have hB2 : w.heap.size + 1 ≤ W1.heap.size := by have := hr.lt; omega
  have hbx := hxy
  unfold PtD at hbx
  have HBB : Hid (Below W1.heap.size (W1.setCell ⟨w.heap.size, 1, none⟩ (.int .i64 p2)) (plus ((W1.alloc (.cells #[] 36)).setCell ⟨w.heap.size, 1, none⟩ (.int .i64 p2)) os2 d2)) := by
    have hA : Below W1.heap.size (W1.setCell ⟨w.heap.size, 1, none⟩ (.int .i64 p1)) (W1.alloc (.cells #[] 36)) := by
      rw [setCell_self hr.at_]; exact (Below.refl _ _).alloc (Nat.le_refl _) _
    exact (below_reset' hA (.int .i64 p2)).trans ((below_plus (Below.refl _ _) os2 d2).mono (by simp))
  have HQ2 := Lib.hid (((OwnG.made 36 2 W1 W1.heap.size (Nat.le_refl _)).setb (show w.heap.size < W1.heap.size by omega) (i := 1) (.int .i64 p2)).plus os2 d2)
  have hzb := HO.out.lt g rfl
  clear hr hxy
  obtain ⟨B1, hB1⟩ : ∃ B1, B1 = W1.heap.size := ⟨_, rfl⟩
  have HB1 := Lib.hid hB1
  rw [← hB1] at HQ2 hB2 hzb HBB ⊢
  clear hB1
  generalize plus ((W1.alloc (.cells #[] 36)).setCell ⟨w.heap.size, 1, none⟩ (.int .i64 p2)) os2 d2 = W2 at HQ2 HBB ⊢
  have hPB : B1 < W2.heap.size := (HQ2.out.lt B1 rfl).2
  have hr : Rd W2 w.heap.size a n1 c1 p2 := HR1.out.near' (by rw [← HB1.out]; exact HBB.out)
  have h1 := hr.at_
  have hlt := hr.lt
  have hle := Nat.le_of_lt hlt
  have HBX := Lib.hid (BoxP.made W2 x y)
  go_wp2_with (first | (go_at_call 40; apply Calls.mono; (focus (with_reducible apply pick_any (m := 8); (focus (repeat (first | with_reducible exact hr | (with_reducible apply Rd.base_at hs1 hB1; simp; done) | with_reducible apply Rd.plus | with_reducible apply Rd.drew | with_reducible apply Rd.drewN | with_reducible apply Rd.drw | with_reducible apply Rd.alloc | with_reducible apply Rd.set))); all_goals omega)); rintro e w1 ⟨x4, d, hx40, hx41, rfl, rfl⟩))
  obtain ⟨K, rfl⟩ := Int.eq_ofNat_of_zero_le hx40
  obtain ⟨P, hPe⟩ : ∃ P, P = W2.heap.size := ⟨_, rfl⟩
  have hbP : w.heap.size < P := by omega
  have hBP : B1 < P := by omega
  have HPE := Lib.hid hPe
  rw [← hPe] at HBX ⊢
  clear h1 hr hPe
  go_loopw [6, 8] (fun v' kv wr => ∃ (k cnt : Nat) (ps : List Int) (q x y : Int), kv = .int .i64 k ∧ k + cnt = K ∧ (p2 ≤ q ∧ q ≤ p2 + 1 + 2 * cnt) ∧ (-10001 - 15 * (cnt : Int) ≤ x ∧ x ≤ 10001 + 15 * cnt) ∧ (-10001 - 15 * (cnt : Int) ≤ y ∧ y ≤ 10001 + 15 * cnt) ∧ Hid (OwnG 36 2 wr B1 v' cnt ps) ∧ Hid (BoxP wr P x y) ∧ Hid (Below B1 (W1.setCell ⟨w.heap.size, 1, none⟩ (.int .i64 q)) wr) ∧ Hid (∀ g, v'.ownBlock = some g → g ≠ P) ∧ Hid (P < wr.heap.size) ∧ Hid (cnt = 0 → v' = .slice (some ⟨B1, 0, none⟩) 0 0)) (fun _ kv _ => (intOf kv).toNat)
  case atStart =>
    refine ⟨K, 0, [], p2 + 1, x, y, rfl, by omega, by omega, by omega, by omega, ?_, ?_, ?_, ?_, ?_, fun _ => rfl⟩
    · show OwnG _ _ _ _ _ _ _
      exact ((HQ2.out.setb (show w.heap.size < B1 by omega) (i := 1) _).alloc _).drw _
    · show BoxP _ _ _ _
      have := BoxP.made (W2.setCell ⟨w.heap.size, 1, none⟩ (.int .i64 (p2 + 1))) x y
      rw [World.size_setCell, ← HPE.out] at this
      exact this
    · show Below _ _ _
      have h1 := HBB.out
      rw [HB1.out] at h1 ⊢
      exact bdrw ((below_reset' h1 _).alloc (by have := HB1.out; simp; omega) _) _
    · intro g hg
      simp [Value.ownBlock] at hg
      omega
    · show P < _
      simp [drw_heap, HPE.out]
  case round =>
    obtain ⟨k, cnt, ps, q, x, y, rfl, hkc, ⟨hq2, hq3⟩, ⟨hx1, hx2⟩, ⟨hy1, hy2⟩, HO', HX, HB, HA, HS, HN⟩ := hrel
    have hBw : B1 ≤ wr.heap.size := by have := HS.out; omega
    by_cases hk : 0 < k
    · obtain ⟨k, rfl⟩ : ∃ k', k = k' + 1 := ⟨k - 1, by omega⟩
      have hk' : (0 : Int) < ((k + 1 : Nat) : Int) := by omega
      have e0 := HX.out.c0
      have e1 := HX.out.c1
      go_wp2_with (first | (at_builtin; refine wpList_app2L _ _ rfl rfl B1 _ cnt ps rfl (HO'.out.alloc _) _ 0 x y rfl (cell_new' (by simp) rfl) (cell_new' (by simp) rfl) (by omega) (by simp; omega) ?_; intro v1 w1 hown hgrow hlie))
      have HO1 := Lib.hid hown
      have HL1 : Hid (∀ g, v1.ownBlock = some g → g ≠ P) := fun g hg => by
        rcases hlie g hg with h | h
        · exact HA.out g h
        · have := HS.out; simp at h; omega
      have HX1 : Hid (BoxP w1 P x y) := by
        show w1.heap[P]? = _
        have h0 := HS.out
        rw [hgrow.block P (by simp; omega) (fun e => (HA.out P e.symm) rfl)]
        exact (Below.heap_alloc wr _ P h0).trans HX.out
      have HB1' := Lib.hid ((HB.out.alloc hBw (.cells #[.int .i64 x, .int .i64 y] 36)).grown hgrow (by simp; omega) (fun g hg => (HO'.out.lt g hg).1))
      have HS1 : Hid (P < w1.heap.size) := by have h1 := HS.out; have h2 := hgrow.size; simp at h2; show P < w1.heap.size; omega
      have hr : Rd w1 w.heap.size a n1 c1 q := HR1.out.near' (by rw [← HB1.out]; exact HB1'.out)
      have h1 := hr.at_
      have hlt := hr.lt
      have hle := Nat.le_of_lt hlt
      have e0 := HX1.out.c0
      have e1 := HX1.out.c1
      have f0 : w1.frozen? ⟨P, 0, none⟩ = false := frozen_of_row w1 P 0 _ _ HX1.out
      have f1 : w1.frozen? ⟨P, 1, none⟩ = false := frozen_of_row w1 P 1 _ _ HX1.out
      have hne : ¬ P = w.heap.size := by omega
      have hne' : ¬ w.heap.size = P := by omega
      have HF : Hid (∀ (x' y' q' : Int) (d : Nat), OwnG 36 2 (drw (((w1.setCell ⟨w.heap.size, 1, none⟩ (.int .i64 q')).setCell ⟨P, 0, none⟩ (.int .i64 x')).setCell ⟨P, 1, none⟩ (.int .i64 y')) d) B1 v1 (cnt + 1) (ps ++ [x, y]) ∧ BoxP (drw (((w1.setCell ⟨w.heap.size, 1, none⟩ (.int .i64 q')).setCell ⟨P, 0, none⟩ (.int .i64 x')).setCell ⟨P, 1, none⟩ (.int .i64 y')) d) P x' y' ∧ Below B1 (W1.setCell ⟨w.heap.size, 1, none⟩ (.int .i64 q')) (drw (((w1.setCell ⟨w.heap.size, 1, none⟩ (.int .i64 q')).setCell ⟨P, 0, none⟩ (.int .i64 x')).setCell ⟨P, 1, none⟩ (.int .i64 y')) d) ∧ P < (drw (((w1.setCell ⟨w.heap.size, 1, none⟩ (.int .i64 q')).setCell ⟨P, 0, none⟩ (.int .i64 x')).setCell ⟨P, 1, none⟩ (.int .i64 y')) d).heap.size) := by
        intro x' y' q' d
        refine ⟨(((HO1.out.setb (show w.heap.size < B1 by omega) _).setb' HL1.out _).setb' HL1.out _).drw d, (HX1.out.setb hne _).poke x' y', ?_, by simpa [drw_heap] using HS1.out⟩
        have h2 := HB1'.out
        rw [HB1.out] at h2 ⊢
        exact bdrw (((below_reset' h2 (.int .i64 q')).setCell (p := ⟨P, 0, none⟩) (by have := HB1.out; simp; omega) _).setCell (p := ⟨P, 1, none⟩) (by have := HB1.out; simp; omega) _) d
      clear hown hgrow hlie HO' HX HB HA HS HN HQ2 HBB HBX hzb HBW HO hbx HO1 HX1 HB1' HS1 HR1 HB1 HPE
      go_region_with (first | (go_at_call 40; apply Calls.mono; (focus (with_reducible apply pick_any (m := 31); (focus (repeat (first | with_reducible exact hr | (with_reducible apply Rd.base_at hs1 hB1; simp; done) | with_reducible apply Rd.plus | with_reducible apply Rd.drew | with_reducible apply Rd.drewN | with_reducible apply Rd.drw | with_reducible apply Rd.alloc | with_reducible apply Rd.set))); all_goals omega)); rintro e w1 ⟨y1, d, hy10, hy11, rfl, rfl⟩; have wa := IntWalk.i64_in (x + y1) (by omega);have wb := IntWalk.i64_in (x + y1 - 15) (by omega);have wc := IntWalk.i64_in (y + y1) (by omega);have wd := IntWalk.i64_in (y + y1 - 15) (by omega)))
      go_goals
      all_goals
        go_wp2
        go_roundw
        case rel => exact ⟨k, cnt + 1, _, q + 1 + 1, _, _, by go_num, by omega, by omega, by omega, by omega, (HF.out _ _ _ _).1, (HF.out _ _ _ _).2.1, (HF.out _ _ _ _).2.2.1, HL1.out, (HF.out _ _ _ _).2.2.2, fun h => by omega⟩
        case measure => simp [intOf]
    · obtain rfl : k = 0 := by omega
      have hk' : ¬ (0 : Int) < ((0 : Nat) : Int) := by omega
      have hr : Rd wr w.heap.size a n1 c1 q := HR1.out.near' (by rw [← HB1.out]; exact HB.out)
      have h1 := hr.at_
      have hlt := hr.lt
      have hle := Nat.le_of_lt hlt
      obtain ⟨g2, cap2, rfl⟩ : ∃ g2 cap, u6 = .slice (some ⟨g2, 0, none⟩) cnt cap := by
        by_cases hc0 : cnt = 0
        · have := HN.out hc0; subst hc0; exact ⟨_, _, this⟩
        · obtain ⟨g2, cap, e, _⟩ := HO'.out.head (by omega)
          exact ⟨g2, cap, e⟩
      go_wp2_with (first | (go_at_call 54; apply Calls.mono; (focus (apply odd_any; (focus (repeat (first | with_reducible exact hr | (with_reducible apply Rd.base_at hs1 hB1; simp; done) | with_reducible apply Rd.plus | with_reducible apply Rd.drew | with_reducible apply Rd.drewN | with_reducible apply Rd.drw | with_reducible apply Rd.alloc | with_reducible apply Rd.set))); all_goals omega)); rintro e w1 ⟨t, p', d, hp0, hp1, rfl, rfl⟩; cases t))
      · go_ret2
        have hfin : Below B1 (W1.setCell ⟨w.heap.size, 1, none⟩ (.int .i64 p')) (drw (wr.setCell ⟨w.heap.size, 1, none⟩ (.int .i64 p')) d) := by
          have h2 := HB.out
          rw [HB1.out] at h2 ⊢
          exact bdrw (below_reset' h2 _) _
        refine ⟨m, zs, g, c', cnt, ps, g2, cap2, by omega, rfl, ⟨hP, ?_, ?_⟩, ?_⟩
        · exact ((HO.out.setb (by omega) (.int .i64 p') (i := 1)).below (hfin.mono (by have := HB1.out; simp; omega))).more (by omega)
        · exact (HBW.out.setCell (p := ⟨w.heap.size, 1, none⟩) (Nat.le_refl _) _).trans (hfin.mono (by omega))
        · exact ((HO'.out.setb (by omega) _).drw _).more (by omega)
      · have hr3 := (hr.set p').drw d
        have HO3 := Lib.hid ((HO'.out.setb (show w.heap.size < B1 by omega) (.int .i64 p') (i := 1)).drw d)
        have HB3 : Hid (Below B1 (W1.setCell ⟨w.heap.size, 1, none⟩ (.int .i64 p')) (drw (wr.setCell ⟨w.heap.size, 1, none⟩ (.int .i64 p')) d)) := by
          have h2 := HB.out
          rw [HB1.out] at h2
          show Below B1 _ _
          rw [HB1.out]
          exact bdrw (below_reset' h2 _) _
        clear hr h1 hlt hle
        generalize drw (wr.setCell ⟨w.heap.size, 1, none⟩ (.int .i64 p')) d = W3 at hr3 HO3 HB3 ⊢
        refine (l20Point_any _ a n1 c1 p' 1 W3 hr3 (by omega) (by omega) (by omega) (by omega)).mono ?_
        rintro e w4 ⟨x4, y4, hxy4, rfl, p3, h30, h31, os3, d3, rfl⟩
        have HO4 := Lib.hid ((HO3.out.setb (show w.heap.size < B1 by omega) (.int .i64 p3) (i := 1)).plus os3 d3)
        have HB4 : Hid (Below B1 (W1.setCell ⟨w.heap.size, 1, none⟩ (.int .i64 p3)) (plus (W3.setCell ⟨w.heap.size, 1, none⟩ (.int .i64 p3)) os3 d3)) := by
          have h2 := HB3.out
          rw [HB1.out] at h2
          show Below B1 _ _
          rw [HB1.out]
          exact (below_reset' h2 _).trans ((below_plus (Below.refl _ _) os3 d3).mono (by have := h2.size; simpa using this))
        have hw4 : B1 ≤ (plus (W3.setCell ⟨w.heap.size, 1, none⟩ (.int .i64 p3)) os3 d3).heap.size := by have := HB4.out.size; have e := HB1.out; simp at this; omega
        clear hr3 hxy4
        generalize plus (W3.setCell ⟨w.heap.size, 1, none⟩ (.int .i64 p3)) os3 d3 = W4 at HO4 HB4 hw4 ⊢
        go_wp2_with (first | (at_builtin; refine wpList_app2L _ _ rfl rfl B1 _ cnt ps rfl (HO4.out.alloc _) _ 0 x4 y4 rfl (cell_new' (by simp) rfl) (cell_new' (by simp) rfl) (by omega) (by simp; omega) ?_; intro v5 w5 hown hgrow _; obtain ⟨g5, cap5, rfl, _⟩ := hown.head (by omega)))
        go_ret2
        have hfin := (HB4.out.alloc hw4 (.cells #[.int .i64 x4, .int .i64 y4] 36)).grown hgrow (by simp; omega) (fun g hg => (HO4.out.lt g hg).1)
        refine ⟨m, zs, g, c', cnt + 1, _, g5, cap5, by omega, rfl, ⟨hP, ?_, ?_⟩, hown.more (by omega)⟩
        · exact ((HO.out.setb (by omega) (.int .i64 p3) (i := 1)).below (hfin.mono (by have := HB1.out; simp; omega))).more (by omega)
        · exact (HBW.out.setCell (p := ⟨w.heap.size, 1, none⟩) (Nat.le_refl _) _).trans (hfin.mono (by omega))

end Go.Proofs.Ytfdpdhinigfpfaa
