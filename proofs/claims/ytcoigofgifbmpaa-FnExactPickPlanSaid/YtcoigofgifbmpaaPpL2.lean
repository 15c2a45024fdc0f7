/-
  The walk of the law that the plans of picks are those of the reference. Condition: the list is one that a law can be handed.
-/
import Derived.Test.YtcoigofgifbmpaaPp
namespace Go.Proofs.Ytcoigofgifbmpaa
open Go.RowKit

theorem Own.kept {w w' : World} {B : Nat} {v : Value} {zs : List Int} {r : Option Nat} (h : Own w B v zs) (hg : w.grownBy w' r) (hne : ∀ g, v.ownBlock = some g → r ≠ some g) : Own w' B v zs := by
  refine World.ownsRow.kept h hg ?_
  cases hv : v.ownBlock with
  | none => exact .inl rfl
  | some g => exact .inr (fun e => hne g hv e.symm)
theorem apartO {T : TypeId} {k : Nat} {w w' : World} {B B' : Nat} {v v' : Value} {n : Nat} {zs zs' : List Int} (h : Own w B v zs) (h' : OwnG T k w' B' v' n zs') (hs : w.heap.size ≤ B') : ∀ g, v.ownBlock = some g → v'.ownBlock ≠ some g := by
  intro g h1 h2
  have := (h.lt g h1).2; have := (h'.lt g h2).1; omega
theorem apartG {T : TypeId} {k : Nat} {w w' : World} {B B' : Nat} {v v' : Value} {n : Nat} {zs zs' : List Int} (h : OwnG T k w B v n zs) (h' : Own w' B' v' zs') (hs : w.heap.size ≤ B') : ∀ g, v'.ownBlock = some g → v.ownBlock ≠ some g := by
  intro g h1 h2
  have := (h.lt g h2).2; have := (h'.lt g h1).1; omega
theorem apartOO {w w' : World} {B B' : Nat} {v v' : Value} {zs zs' : List Int} (h : Own w B v zs) (h' : Own w' B' v' zs') (hs : w.heap.size ≤ B') : ∀ g, v.ownBlock = some g → v'.ownBlock ≠ some g := by
  intro g h1 h2
  have := (h.lt g h1).2; have := (h'.lt g h2).1; omega

theorem upd_of {w w' : World} (h : ∃ d, w' = drw w d) : Up w w' := by
  obtain ⟨d, rfl⟩ := h
  exact up_of_below (below_drw (Below.refl _ _) d)

set_option maxHeartbeats 2000000 in
theorem exactPickPlan_any (a : Option Addr) (n c : Nat) (s lo hi : Int) (w : World) (ha : Given2 w a n c) :
    Calls Try.prog 10 #[.slice a n c, .int .i64 s, .int .i64 lo, .int .i64 hi] w fun e w' => e = .returned (.bool true) ∧ Up w w' := by
  obtain ⟨hnc, hcm, zs, hz, hi⟩ := ha
  unfold maxLen at hcm
  have HI := Lib.hid hi
  have HZ := Lib.hid hz
  clear hi hz
  have hS := szS_any a n c w (by omega)
  by_cases hn : n ≤ 1048576
  · rw [if_pos hn] at hS
    have hneg : ¬ ((1048576 : Int) - n < 0) := by omega
    have hlen := planF_len zs s lo hi n
    have c1 := fun a n' c' W (hi' : Ints W a zs) (e : n' = n) => sPlan_any a n c' zs s lo hi W HZ.out hi' (by omega)
    have c2 := fun a n' c' W (hi' : Ints W a zs) (e : n' = n) => plan_any a n c' zs s lo hi W HZ.out hi' (by omega)
    generalize planF zs s lo hi n = us at hlen c1 c2
    have C1 := Lib.hid c1
    have C2 := Lib.hid c2
    clear c1 c2
    go_enter Try.func10, Try.ntmps10
    go_wp2_with (first | (go_at_call 14; refine hS.mono ?_; rintro e w' ⟨rfl, rfl⟩))
    refine (toS_any _ _ _ zs _ HZ.out HI.out hn).mono ?_
    rintro e w1 ⟨a1, e1, rfl, hO1, hB1⟩
    have HT1 := Lib.hid hO1.ints.2
    have HB1 := Lib.hid hB1
    clear hO1 hB1
    go_wp2_with fail
    refine (C1.out _ _ _ _ HT1.out rfl).mono ?_
    rintro e w2 ⟨a2, e2, rfl, hO2, hB2⟩
    have H0 := Lib.hid hO2
    have HB2 := Lib.hid (HB1.out.trans (hB2.mono HB1.out.size))
    clear hO2 hB2 HT1
    go_wp2_with fail
    refine (toS_any _ _ _ zs _ HZ.out (HI.out.below HB2.out) hn).mono ?_
    rintro e w3 ⟨a3, e3, rfl, hO3, hB3⟩
    have A0X := Lib.hid (apartO H0.out hO3 (Nat.le_refl _))
    replace H0 := Lib.hid (H0.out.below hB3)
    have HX := Lib.hid hO3
    have HB3 := Lib.hid (HB2.out.trans (hB3.mono HB2.out.size))
    clear hO3 hB3
    go_wp2_with fail
    refine (C2.out _ _ _ _ HX.out.ints.2 rfl).mono ?_
    rintro e w4 ⟨a4, e4, rfl, hO4, hB4⟩
    have A0G := Lib.hid (apartOO H0.out hO4 (Nat.le_refl _))
    have AXG := Lib.hid (apartG HX.out hO4 (Nat.le_refl _))
    replace H0 := Lib.hid (H0.out.below hB4)
    replace HX := Lib.hid (HX.out.below hB4)
    have HG := Lib.hid (hO4.more HB3.out.size)
    have HB4 := Lib.hid (HB3.out.trans (hB4.mono HB3.out.size))
    clear hO4 hB4
    go_wp2_with fail
    refine (eqInts_any _ _ _ _ _ us _ HG.out.ints.2 H0.out.ints.2 rfl (by omega)).mono ?_
    rintro e w5 ⟨rfl, hUd⟩
    have hU := upd_of hUd
    replace H0 := Lib.hid (H0.out.below hU.below)
    replace HX := Lib.hid (HX.out.below hU.below)
    replace HG := Lib.hid (HG.out.below hU.below)
    have HB5 := Lib.hid (HB4.out.trans (hU.below.mono HB4.out.size))
    clear hU
    go_wp2_with fail
    refine (toS_any _ _ _ zs _ HZ.out (HI.out.below HB5.out) hn).mono ?_
    rintro e w6 ⟨a6, e6, rfl, hO6, hB6⟩
    replace H0 := Lib.hid (H0.out.below hB6)
    replace HX := Lib.hid (HX.out.below hB6)
    replace HG := Lib.hid (HG.out.below hB6)
    have HT6 := Lib.hid hO6.ints.2
    have HB6 := Lib.hid (HB5.out.trans (hB6.mono HB5.out.size))
    clear hO6 hB6
    go_wp2_with fail
    refine (eqS_any _ _ _ _ _ zs _ HX.out.ints.2 HT6.out HZ.out (by omega)).mono ?_
    rintro e w7 ⟨rfl, hU⟩
    replace H0 := Lib.hid (H0.out.below hU.below)
    replace HX := Lib.hid (HX.out.below hU.below)
    replace HG := Lib.hid (HG.out.below hU.below)
    have HB7 := Lib.hid (HB6.out.trans (hU.below.mono HB6.out.size))
    clear hU HT6
    go_wp2_with fail
    refine (markS_any _ _ _ zs _ HX.out (by omega)).mono ?_
    rintro e w8 ⟨rfl, hO8, hG8⟩
    replace H0 := Lib.hid (H0.out.kept hG8 A0X.out)
    replace HG := Lib.hid (HG.out.kept hG8 AXG.out)
    have HB8 := Lib.hid (HB7.out.grown hG8 HB7.out.size (fun g hg => Nat.le_trans HB2.out.size (HX.out.lt g hg).1))
    clear hO8 hG8 HX
    have hpos : ¬ ((1 : Int) + n * 2 < 0) := by omega
    go_wp2_with fail
    refine (eqInts_any _ _ _ _ _ us _ HG.out.ints.2 H0.out.ints.2 rfl (by omega)).mono ?_
    rintro e w9 ⟨rfl, hUd⟩
    have hU := upd_of hUd
    replace H0 := Lib.hid (H0.out.below hU.below)
    replace HG := Lib.hid (HG.out.below hU.below)
    have HB9 := Lib.hid (HB8.out.trans (hU.below.mono HB8.out.size))
    clear hU
    go_wp2_with fail
    refine (mark_any _ _ us _ HG.out (by omega)).mono ?_
    rintro e w10 ⟨rfl, hO10, hG10⟩
    replace H0 := Lib.hid (H0.out.kept hG10 A0G.out)
    have HB10 := Lib.hid (HB9.out.grown hG10 HB9.out.size (fun g hg => (HG.out.lt g hg).1))
    have HM := Lib.hid hO10
    clear hO10 hG10 HG
    have hpos2 : ¬ ((1 : Int) + us.length < 0) := by omega
    go_wp2_with fail
    refine (held_any _ _ _ _ HM.out.ints.2 (by omega)).mono ?_
    rintro e w' ⟨rfl, rfl⟩
    go_wp2_with fail
    refine (toS_any _ _ _ zs _ HZ.out (HI.out.below HB10.out) hn).mono ?_
    rintro e w11 ⟨a11, e11, rfl, hO11, hB11⟩
    replace H0 := Lib.hid (H0.out.below hB11)
    replace HM := Lib.hid (HM.out.below hB11)
    have HT11 := Lib.hid hO11.ints.2
    have HB11 := Lib.hid (HB10.out.trans (hB11.mono HB10.out.size))
    clear hO11 hB11
    go_wp2_with fail
    refine (C2.out _ _ _ _ HT11.out rfl).mono ?_
    rintro e w12 ⟨a12, e12, rfl, hO12, hB12⟩
    replace H0 := Lib.hid (H0.out.below hB12)
    replace HM := Lib.hid (HM.out.below hB12)
    have HH := Lib.hid hO12
    have HB12 := Lib.hid (HB11.out.trans (hB12.mono HB11.out.size))
    clear hO12 hB12 HT11
    go_wp2_with fail
    refine (eqInts_any _ _ _ _ _ us _ HH.out.ints.2 H0.out.ints.2 rfl (by omega)).mono ?_
    rintro e w13 ⟨rfl, hUd⟩
    have hU := upd_of hUd
    replace HM := Lib.hid (HM.out.below hU.below)
    have HB13 := Lib.hid (HB12.out.trans (hU.below.mono HB12.out.size))
    clear hU
    go_wp2_with fail
    refine (held_any _ _ _ _ HM.out.ints.2 (by omega)).mono ?_
    rintro e w' ⟨rfl, rfl⟩
    go_wp2
    go_ret
    exact ⟨rfl, up_of_below HB13.out⟩
  · rw [if_neg hn] at hS
    go_enter Try.func10, Try.ntmps10
    go_wp2_with (first | (go_at_call 14; refine hS.mono ?_; rintro e w' ⟨rfl, rfl⟩))
    go_ret
    exact ⟨rfl, up_of_below (Below.refl _ _)⟩

end Go.Proofs.Ytcoigofgifbmpaa
