/-
  The walk of the law that the places of a tool that presses are those of the reference. No condition.
-/
import Derived.Test.YtjklepabliehdaaTr
namespace Go.Proofs.Ytjklepabliehdaa
open Go.RowKit

set_option maxHeartbeats 1000000 in
theorem exactPressTrace_any (p v k f s m : Int) (w : World) :
    Calls Try.prog 9 #[.int .i64 p, .int .i64 v, .int .i64 k, .int .i64 f, .int .i64 s, .int .i64 m] w fun e w' => e = .returned (.bool true) ∧ Up w w' := by
  have hlen := trF_len p v k f s m
  have c1 := fun W => sTrace_any p v k f s m W
  have c2 := fun W => trace_any p v k f s m W
  generalize trF p v k f s m = zs at hlen c1 c2
  have C1 := Lib.hid c1
  have C2 := Lib.hid c2
  clear c1 c2
  go_enter Try.func9, Try.ntmps9
  go_wp2_with fail
  refine (C1.out _).mono ?_
  rintro e w1 ⟨a1, n1, rfl, hO1, hB1⟩
  have HO1 := Lib.hid hO1
  have HB1 := Lib.hid hB1
  clear hO1 hB1
  go_wp2_with fail
  refine (C2.out _).mono ?_
  rintro e w2 ⟨a2, n2, rfl, hO2, hB2⟩
  have HO2 := Lib.hid hO2
  have HB2 := Lib.hid hB2
  clear hO2 hB2
  go_wp2_with fail
  refine (eqInts_any _ _ _ _ _ zs _ HO2.out.ints.2 (HO1.out.below HB2.out).ints.2 rfl (by omega)).mono ?_
  rintro e w3 ⟨rfl, d, rfl⟩
  go_wp2_with fail
  refine (mark_any _ _ zs _ (HO2.out.drw d) (by omega)).mono ?_
  rintro e w4 ⟨rfl, hO4, hG4⟩
  have HB4 := Lib.hid ((HO2.out.drw d).step hG4 HB2.out.size (below_drw HB2.out d))
  have HO4 := Lib.hid hO4
  have HA4 := Lib.hid (HO1.out.below HB4.out)
  clear hO4 hG4
  go_wp2_with fail
  refine (held_any _ _ _ _ HO4.out.ints.2 (by omega)).mono ?_
  rintro e w' ⟨rfl, rfl⟩
  go_wp2_with fail
  refine (C2.out _).mono ?_
  rintro e w5 ⟨a5, n5, rfl, hO5, hB5⟩
  have HO5 := Lib.hid hO5
  have HB5 := Lib.hid hB5
  clear hO5 hB5
  go_wp2_with fail
  refine (eqInts_any _ _ _ _ _ zs _ HO5.out.ints.2 (HA4.out.below HB5.out).ints.2 rfl (by omega)).mono ?_
  rintro e w6 ⟨rfl, d6, rfl⟩
  go_wp2_with fail
  refine (held_any _ _ _ _ ((HO4.out.below HB5.out).ints.2.drw d6) (by omega)).mono ?_
  rintro e w' ⟨rfl, rfl⟩
  go_wp2
  go_ret
  exact ⟨rfl, up_of_below (below_drw ((HB1.out.trans (HB4.out.mono HB1.out.size)).trans (HB5.out.mono (Nat.le_trans HB1.out.size HB4.out.size))) _)⟩

end Go.Proofs.Ytjklepabliehdaa
