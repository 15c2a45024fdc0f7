/-
  The walk of the law that the runs of a motor are those of the reference. No condition.
-/
import Derived.Test.YtelcaafnjahbkaaRm2
namespace Go.Proofs.Ytelcaafnjahbkaa
open Go.RowKit

theorem made_below {w0 W w1 : World} (h : Below w0.heap.size w0 W) (h1 : Below W.heap.size W w1) : Below w0.heap.size w0 w1 := h.trans (h1.mono h.size)
theorem box_cells {w w1 : World} {x y : Int} {T : TypeId} (h : Below (w.alloc (.cells #[.int .i64 x, .int .i64 y] T)).heap.size (w.alloc (.cells #[.int .i64 x, .int .i64 y] T)) w1) :
    w1.cell? ⟨w.heap.size, 0, none⟩ = some (.int .i64 x) ∧ w1.cell? ⟨w.heap.size, 1, none⟩ = some (.int .i64 y) ∧ w.heap.size < w1.heap.size := by
  refine ⟨(h.cell (p := ⟨w.heap.size, 0, none⟩) (by simp)).trans (World.cell?_alloc_new w _ _ 0), (h.cell (p := ⟨w.heap.size, 1, none⟩) (by simp)).trans (World.cell?_alloc_new w _ _ 1), ?_⟩
  have := h.size
  simp at this
  omega

set_option maxHeartbeats 2000000 in
theorem exactRunMotor_any (x y t k d f m : Int) (w : World) :
    Calls Try.prog 12 #[.agg #[.int .i64 x, .int .i64 y], .int .i64 t, .int .i64 k, .int .i64 d, .int .i64 f, .int .i64 m] w fun e w' => e = .returned (.bool true) ∧ Up w w' := by
  have hlen := runF_len x y t k d f m
  have c1 := fun W => sRun_any x y t k d f m W
  have c2 := fun W => run_any x y t k d f m W
  generalize runF x y t k d f m = zs at hlen c1 c2
  have C1 := Lib.hid c1
  have C2 := Lib.hid c2
  clear c1 c2
  go_enter Try.func12, Try.ntmps12
  go_wp2_with (first | (go_at_call 15; refine (toMotor_any _ _ _).mono ?_; rintro e w1 ⟨rfl, hup⟩; (first | (replace hup := up_join hup) | skip); obtain ⟨os2, dos2, rfl⟩ := hup))
  refine (C1.out _).mono ?_
  rintro e w1 ⟨a1, n1, rfl, hO1, hB1⟩
  have hW1 := made_below (below_plus (Below.refl _ _) _ _) hB1
  obtain ⟨k0, k1, k2⟩ := box_cells hW1
  have HO1 := Lib.hid (hO1.more (B' := 0) (Nat.zero_le _))
  have HW1 := Lib.hid hW1
  clear hO1 hB1 hW1
  go_wp2_with (first | (go_at_call 15; refine (toMotor_any _ _ _).mono ?_; rintro e w1 ⟨rfl, hup⟩; (first | (replace hup := up_join hup) | skip); obtain ⟨os3, dos3, rfl⟩ := hup))
  refine (C2.out _).mono ?_
  rintro e w2 ⟨a2, n2, rfl, hO2, hB2⟩
  have hb12 := made_below (below_plus (Below.refl _ _) _ _) hB2
  have HA2 := Lib.hid (HO1.out.below hb12)
  have HL1 := Lib.hid HO1.out.lt
  have hO2' := hO2.more (B' := w1.heap.size) (by simp [plus])
  have HO2 := Lib.hid hO2'
  have HW2 := Lib.hid (HW1.out.trans (hb12.mono HW1.out.size))
  have HB12 := Lib.hid hb12
  clear hO2 hO2' hB2 hb12 k0 k1 k2
  go_wp2_with fail
  refine (eqInts_any _ _ _ _ _ zs _ HO2.out.ints.2 HA2.out.ints.2 rfl (by omega)).mono ?_
  rintro e w3 ⟨rfl, e3, rfl⟩
  go_wp2_with fail
  refine (mark_any _ _ zs _ (HO2.out.drw e3) (by omega)).mono ?_
  rintro e w4 ⟨rfl, hO4, hG4⟩
  have hW4 := (HO2.out.drw e3).step hG4 HB12.out.size (below_drw HB12.out e3)
  have HA4 := Lib.hid (HO1.out.below hW4)
  have HO4 := Lib.hid hO4
  have hW4' := HW1.out.trans (hW4.mono HW1.out.size)
  obtain ⟨k0, k1, k2⟩ := box_cells hW4'
  have HW4 := Lib.hid hW4'
  clear hO4 hG4 hW4 hW4'
  go_wp2_with fail
  refine (held_any _ _ _ _ HO4.out.ints.2 (by omega)).mono ?_
  rintro e w' ⟨rfl, rfl⟩
  go_wp2_with (first | (go_at_call 15; refine (toMotor_any _ _ _).mono ?_; rintro e w1 ⟨rfl, hup⟩; (first | (replace hup := up_join hup) | skip); obtain ⟨os4, dos4, rfl⟩ := hup))
  refine (C2.out _).mono ?_
  rintro e w5 ⟨a5, n5, rfl, hO5, hB5⟩
  have hb45 := made_below (below_plus (Below.refl _ _) _ _) hB5
  have HA5 := Lib.hid (HA4.out.below hb45)
  have HO5 := Lib.hid (HO4.out.below hb45)
  have HN5 := Lib.hid hO5.ints.2
  have HW5 := Lib.hid (HW4.out.trans (hb45.mono HW4.out.size))
  clear hO5 hB5 hb45 k0 k1 k2
  go_wp2_with fail
  refine (eqInts_any _ _ _ _ _ zs _ HN5.out HA5.out.ints.2 rfl (by omega)).mono ?_
  rintro e w6 ⟨rfl, d6, rfl⟩
  go_wp2_with fail
  refine (held_any _ _ _ _ (HO5.out.ints.2.drw d6) (by omega)).mono ?_
  rintro e w' ⟨rfl, rfl⟩
  go_wp2
  go_ret
  exact ⟨rfl, up_of_below (below_drw (((Below.refl _ _).alloc (Nat.le_refl _) _).trans (HW5.out.mono (by simp))) _)⟩

end Go.Proofs.Ytelcaafnjahbkaa
