/-
  The walks of the laws that the functions on lists of structs yield what those of the reference yield. Condition: the list is one that a law can be handed.
-/
import Derived.Test.YtfdpdhinigfpfaaZv
namespace Go.Proofs.Ytfdpdhinigfpfaa
open Go.RowKit

set_option maxHeartbeats 1000000 in
theorem exactZonesValid_any (a : Option Addr) (n c : Nat) (w : World) (ha : Given4 w a n c) :
    Calls Try.prog 7 #[.slice a n c] w fun e w' => e = .returned (.bool true) ∧ Up w w' := by
  obtain ⟨hnc, hcm, zs, hz, hi⟩ := ha
  unfold maxLen at hcm
  have HI := Lib.hid hi
  have HZ := Lib.hid hz
  clear hi hz
  have hS := szZ_any a n c 1048576 w (by omega) (by decide) (by decide)
  by_cases hn : n ≤ 1048576
  · rw [if_pos (show (n : Int) ≤ 1048576 by omega)] at hS
    have hneg : ¬ ((1048576 : Int) - n < 0) := by omega
    go_enter Try.func7, Try.ntmps7
    go_wp2_with (first | (go_at_call 23; refine hS.mono ?_; rintro e w' ⟨rfl, rfl⟩))
    refine (toZS_any _ _ _ zs _ HZ.out HI.out hn).mono ?_
    rintro e w1 ⟨a1, c1, rfl, hO1, hB1⟩
    have HO1 := Lib.hid hO1
    have HB1 := Lib.hid hB1
    clear hO1 hB1
    go_wp2_with fail
    refine (sZvalid_any _ _ _ zs _ HZ.out HO1.out.ints.2 (by omega)).mono ?_
    rintro e wq ⟨rfl, hUq⟩
    replace HB1 := Lib.hid (HB1.out.trans (hUq.below.mono HB1.out.size))
    clear hUq
    go_wp2_with fail
    refine (toZS_any _ _ _ zs _ HZ.out (HI.out.below HB1.out) hn).mono ?_
    rintro e w2 ⟨a2, c2, rfl, hO2, hB2⟩
    have HO2 := Lib.hid hO2
    have HB2 := Lib.hid (HB1.out.trans (hB2.mono HB1.out.size))
    clear hO2 hB2
    go_wp2_with fail
    refine (zvalid_any _ _ _ zs _ HZ.out HO2.out.ints.2 (by omega)).mono ?_
    rintro e w3 ⟨rfl, hU3⟩
    have HO3 := Lib.hid (HO2.out.below hU3.below)
    have HB3 := Lib.hid (HB2.out.trans (hU3.below.mono HB2.out.size))
    clear hU3
    go_wp2_with fail
    refine (toZS_any _ _ _ zs _ HZ.out (HI.out.below HB3.out) hn).mono ?_
    rintro e w4 ⟨a4, c4, rfl, hO4, hB4⟩
    have HO4 := Lib.hid hO4
    have HO5 := Lib.hid (HO3.out.below hB4)
    have HB4 := Lib.hid (HB3.out.trans (hB4.mono HB3.out.size))
    clear hO4 hB4
    go_wp2_with fail
    refine (eqZS_any _ _ _ _ _ zs _ HO5.out.ints.2 HO4.out.ints.2 HZ.out (by omega)).mono ?_
    rintro e w5 ⟨rfl, hU5⟩
    have HB5 := Lib.hid (HB4.out.trans (hU5.below.mono HB4.out.size))
    clear hU5
    go_wp2
    go_ret
    exact ⟨rfl, up_of_below HB5.out⟩
  · rw [if_neg (show ¬ (n : Int) ≤ 1048576 by omega)] at hS
    go_enter Try.func7, Try.ntmps7
    go_wp2_with (first | (go_at_call 23; refine hS.mono ?_; rintro e w' ⟨rfl, rfl⟩))
    go_ret
    exact ⟨rfl, up_of_below (Below.refl _ _)⟩

end Go.Proofs.Ytfdpdhinigfpfaa
