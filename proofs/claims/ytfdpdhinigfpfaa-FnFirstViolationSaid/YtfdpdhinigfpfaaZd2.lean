/-
  The contract of the function that draws zones and a point. No condition.
-/
import Derived.Test.YtfdpdhinigfpfaaZd
namespace Go.Proofs.Ytfdpdhinigfpfaa
open Go.RowKit

set_option maxHeartbeats 1000000 in
theorem drawSpeedLimit_any (a : Option Addr) (n c : Nat) (w : World) (hb : Bytes w w.heap.size a n) (hnc : n ≤ c) (hcm : c ≤ maxLen) :
    Calls Try.prog 29 #[.slice a n c] w fun e w' => ∃ (m : Nat) (zs : List Int) (g c' : Nat) (x y : Int), PtD x y ∧ e = .returned (.tuple #[.slice (some ⟨g, 0, none⟩) m c', .agg #[.int .i64 x, .int .i64 y]]) ∧ DrawnZ w g m c' zs w' := by
  go_enter Try.func29, Try.ntmps29
  go_wp2_with (first | (go_at_call 39; apply Calls.mono; (focus (apply open_any; (focus (apply Bytes.later hb; repeat (first | with_reducible exact Below.refl _ _ | with_reducible apply below_alloc | with_reducible apply below_drw | with_reducible apply below_drew | with_reducible apply below_drewN | with_reducible apply below_plus | with_reducible apply below_set | (simp; done)))); exact hnc; exact hcm)); rintro e w1 ⟨n1, c1, hs1, hB1, rfl, rfl⟩))
  apply Calls.mono
  · apply l20Zones_any
    · (focus (repeat (first | with_reducible exact hr | (with_reducible apply Rd.base_at hs1 hB1; simp; done) | with_reducible apply Rd.plus | with_reducible apply Rd.drew | with_reducible apply Rd.drewN | with_reducible apply Rd.drw | with_reducible apply Rd.alloc | with_reducible apply Rd.set)))
    all_goals omega
  rintro e w1 ⟨m, zs, g, c', hP, rfl, hO, p1, hp0, hp1, os, d, rfl⟩
  have hr1 : Rd ((w.alloc (.cells #[.int .i64 0, .int .i64 0] 36)).alloc (.cells #[.slice a n1 c1, .int .i64 0] 78)) (w.heap.size + 1) a n1 c1 0 := by (focus (repeat (first | with_reducible exact hr | (with_reducible apply Rd.base_at hs1 hB1; simp; done) | with_reducible apply Rd.plus | with_reducible apply Rd.drew | with_reducible apply Rd.drewN | with_reducible apply Rd.drw | with_reducible apply Rd.alloc | with_reducible apply Rd.set)))
  have hr := (hr1.set p1).plus os d
  have HO := Lib.hid (hO.more (B' := w.heap.size + 2) (by simp))
  have HBW := Lib.hid (show Below w.heap.size w (plus (((w.alloc (.cells #[.int .i64 0, .int .i64 0] 36)).alloc (.cells #[.slice a n1 c1, .int .i64 0] 78)).setCell ⟨w.heap.size + 1, 1, none⟩ (.int .i64 p1)) os d) by repeat (first | with_reducible exact Below.refl _ _ | with_reducible apply below_alloc | with_reducible apply below_drw | with_reducible apply below_drew | with_reducible apply below_drewN | with_reducible apply below_plus | with_reducible apply below_set | (simp; done)))
  have hk0 : (plus (((w.alloc (.cells #[.int .i64 0, .int .i64 0] 36)).alloc (.cells #[.slice a n1 c1, .int .i64 0] 78)).setCell ⟨w.heap.size + 1, 1, none⟩ (.int .i64 p1)) os d).heap[w.heap.size]? = some (.cells #[.int .i64 0, .int .i64 0] 36 (0, 0)) := by
    have hb2 : Below (w.alloc (.cells #[.int .i64 0, .int .i64 0] 36)).heap.size (w.alloc (.cells #[.int .i64 0, .int .i64 0] 36)) (plus (((w.alloc (.cells #[.int .i64 0, .int .i64 0] 36)).alloc (.cells #[.slice a n1 c1, .int .i64 0] 78)).setCell ⟨w.heap.size + 1, 1, none⟩ (.int .i64 p1)) os d) := by repeat (first | with_reducible exact Below.refl _ _ | with_reducible apply below_alloc | with_reducible apply below_drw | with_reducible apply below_drew | with_reducible apply below_drewN | with_reducible apply below_plus | with_reducible apply below_set | (simp; done))
    refine (hb2.block w.heap.size (by simp)).trans ?_
    show (w.heap.push _)[w.heap.size]? = _
    exact Array.getElem?_push_size ..
  clear hO hr1
  generalize plus (((w.alloc (.cells #[.int .i64 0, .int .i64 0] 36)).alloc (.cells #[.slice a n1 c1, .int .i64 0] 78)).setCell ⟨w.heap.size + 1, 1, none⟩ (.int .i64 p1)) os d = W1 at hr HO HBW hk0 ⊢
  go_wp2_with fail
  apply Calls.mono
  · apply l20Point_any
    · exact hr
    all_goals omega
  rintro e w2 ⟨x, y, hxy, rfl, p2, hq0, hq1, os2, d2, rfl⟩
  have hb3 : Below (w.heap.size + 1) W1 (plus (W1.setCell ⟨w.heap.size + 1, 1, none⟩ (.int .i64 p2)) os2 d2) :=
    ((Below.refl _ _).setCell (p := ⟨w.heap.size + 1, 1, none⟩) (Nat.le_refl _) _).trans ((below_plus (Below.refl (W1.setCell ⟨w.heap.size + 1, 1, none⟩ (.int .i64 p2)).heap.size (W1.setCell ⟨w.heap.size + 1, 1, none⟩ (.int .i64 p2))) os2 d2).mono (by simp; have := hr.lt; omega))
  have hk2 := (hb3.block w.heap.size (by omega)).trans hk0
  have HO2 := Lib.hid ((HO.out.setb (show w.heap.size + 1 < w.heap.size + 2 by omega) (i := 1) (.int .i64 p2)).plus os2 d2)
  have HBW2 := Lib.hid (below_plus (HBW.out.setCell (p := ⟨w.heap.size + 1, 1, none⟩) (by simp) (.int .i64 p2)) os2 d2)
  clear hr HO HBW hk0 hb3
  generalize plus (W1.setCell ⟨w.heap.size + 1, 1, none⟩ (.int .i64 p2)) os2 d2 = W2 at HO2 HBW2 hk2 ⊢
  have e0 := cell_of_row W2 w.heap.size 0 _ _ (0, 0) hk2
  have e1 := cell_of_row W2 w.heap.size 1 _ _ (0, 0) hk2
  have f0 := frozen_of_row W2 w.heap.size 0 _ _ hk2
  have f1 := frozen_of_row W2 w.heap.size 1 _ _ hk2
  have HK := Lib.hid hk2
  clear hk2
  go_wp2
  have hh0 := heap_setCell_same W2 w.heap.size 0 _ _ (.int .i64 x) HK.out
  have hh1 := heap_setCell_same _ w.heap.size 1 _ _ (.int .i64 y) hh0
  have q0 : (W2.setCell ⟨w.heap.size, 0, none⟩ (.int .i64 x)).cell? ⟨w.heap.size, 0, none⟩ = some (.int .i64 x) := cell_of_row _ _ 0 _ _ (0, 0) hh0
  have q1 : ((W2.setCell ⟨w.heap.size, 0, none⟩ (.int .i64 x)).setCell ⟨w.heap.size, 1, none⟩ (.int .i64 y)).cell? ⟨w.heap.size, 1, none⟩ = some (.int .i64 y) := cell_of_row _ _ 1 _ _ (0, 0) hh1
  refine bodyPost_ret (v := .tuple #[.slice (some ⟨g, 0, none⟩) m c', .agg #[.int .i64 x, .int .i64 y]]) (by simp [results, Try.results29, go_sem, q0, q1]) rfl ?_
  exact ⟨m, zs, g, c', x, y, hxy, rfl, hP, ((HO2.out.setb (show w.heap.size < w.heap.size + 2 by omega) _).setb (show w.heap.size < w.heap.size + 2 by omega) _).more (by omega), (HBW2.out.setCell (p := ⟨w.heap.size, 0, none⟩) (Nat.le_refl _) _).setCell (p := ⟨w.heap.size, 1, none⟩) (Nat.le_refl _) _⟩

end Go.Proofs.Ytfdpdhinigfpfaa
