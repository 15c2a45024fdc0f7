/-
  The walk of the law that the limits of speed are those of the reference. Condition: the list is one that a law can be handed.
-/
import Derived.Test.YtfdpdhinigfpfaaLi
namespace Go.Proofs.Ytfdpdhinigfpfaa
open Go.RowKit

theorem Up.of {w0 w w' : World} (h : Below w0.heap.size w0 w) (h' : Below w.heap.size w w') : Below w0.heap.size w0 w' := h.trans (h'.mono h.size)
theorem made_plus {w w1 : World} (h : Below w.heap.size w w1) : ∃ os d, w1 = plus w os d := plus_of_below h
theorem ints_join {w : World} {a : Option Addr} {zs : List Int} {os os' : Array Obj} {d d' : Nat} (h : Ints (plus w os d) a zs) : Ints (plus w (os ++ os') d') a zs := by
  have := h.plus os' d'
  rwa [plus_plus] at this

set_option maxHeartbeats 1000000 in
theorem exactSpeedLimit_any (a : Option Addr) (n c : Nat) (u v : Int) (w : World) (ha : Given4 w a n c) :
    Calls Try.prog 8 #[.slice a n c, .agg #[.int .i64 u, .int .i64 v]] w fun e w' => e = .returned (.bool true) ∧ Up w w' := by
  obtain ⟨hnc, hcm, zs, hz, hi⟩ := ha
  unfold maxLen at hcm
  have HZ := Lib.hid hz
  have hS := szZ_any a n c 1048576 (w.alloc (.cells #[.int .i64 u, .int .i64 v] 44)) (by omega) (by decide) (by decide)
  have HI := Lib.hid (hi.alloc (.cells #[.int .i64 u, .int .i64 v] 44))
  clear hi hz
  by_cases hn : n ≤ 1048576
  · rw [if_pos (show (n : Int) ≤ 1048576 by omega)] at hS
    have hneg : ¬ ((1048576 : Int) - n < 0) := by omega
    have hW0 : Below w.heap.size w (w.alloc (.cells #[.int .i64 u, .int .i64 v] 44)) := (Below.refl _ _).alloc (Nat.le_refl _) _
    have b0 : (w.alloc (.cells #[.int .i64 u, .int .i64 v] 44)).cell? ⟨w.heap.size, 0, none⟩ = some (.int .i64 u) := World.cell?_alloc_new _ _ _ 0
    have b1 : (w.alloc (.cells #[.int .i64 u, .int .i64 v] 44)).cell? ⟨w.heap.size, 1, none⟩ = some (.int .i64 v) := World.cell?_alloc_new _ _ _ 1
    have hK : w.heap.size < (w.alloc (.cells #[.int .i64 u, .int .i64 v] 44)).heap.size := by simp
    have HW0 := Lib.hid hW0
    go_enter Try.func8, Try.ntmps8
    go_wp2_with (first | (go_at_call 23; refine hS.mono ?_; rintro e w' ⟨rfl, rfl⟩))
    clear hS hW0
    generalize w.alloc (.cells #[.int .i64 u, .int .i64 v] 44) = W0 at HI HW0 b0 b1 hK ⊢
    have HK := Lib.hid hK
    obtain ⟨K, hKe⟩ : ∃ K, K = w.heap.size := ⟨_, rfl⟩
    rw [← hKe] at b0 b1 hK HK ⊢
    clear hKe
    go_region_held3 (fun W => W.cell? ⟨K, 0, none⟩ = some (.int .i64 u) ∧ W.cell? ⟨K, 1, none⟩ = some (.int .i64 v)) (simp [go_sem, b0, b1, hK])
      (first
        | (go_at_call 24; refine (toZS_any _ _ _ zs _ HZ.out (by first | exact HI.out | exact HI.out.plus _ _ | exact (HI.out.below (below_drew (Below.refl _ _)))) hn).mono ?_; rintro e w1 ⟨a1, e1, rfl, hO1, hB1⟩; obtain ⟨os1, d1, rfl⟩ := made_plus hB1)
        | (go_at_call 27; refine (toE_any _ _ _).mono ?_; rintro e w1 ⟨rfl, osp, dp, rfl⟩)
        | (go_at_call 26; refine (sLimit_any _ _ _ zs u v _ HZ.out (by first | exact hO1.ints.2 | exact hO1.ints.2.plus _ _ | exact ints_join hO1.ints.2) (by omega)).mono ?_; rintro e w1 ⟨rfl, osq, dq, rfl⟩))
    all_goals
      go_wp2_with fail
      refine (toZS_any _ _ _ zs _ HZ.out (HI.out.plus _ _) hn).mono ?_
      rintro e w2 ⟨a2, e2, rfl, hO2, hB2⟩
      have HC2 := Lib.hid (Up.of (below_plus (Below.refl W0.heap.size W0) _ _) hB2)
      have HO2 := Lib.hid hO2
      clear hO2 hB2 hO1 hB1
      have p0 := (HC2.out.cell (p := ⟨K, 0, none⟩) HK.out).trans b0
      have p1 := (HC2.out.cell (p := ⟨K, 1, none⟩) HK.out).trans b1
      go_wp2_with fail
      refine (toE_any _ _ _).mono ?_
      rintro e w3 ⟨rfl, os3, d3, rfl⟩
      go_wp2_with fail
      refine (limit_any _ _ _ zs u v _ HZ.out (HO2.out.ints.2.plus _ _) (by omega)).mono ?_
      rintro e w4 ⟨rfl, hU⟩
      have HO4 := Lib.hid ((HO2.out.plus os3 d3).below hU.below)
      have HC4 := Lib.hid (Up.of (below_plus HC2.out os3 d3) hU.below)
      clear hU p0 p1
      go_wp2_with fail
      refine (toZS_any _ _ _ zs _ HZ.out (HI.out.below HC4.out) hn).mono ?_
      rintro e w5 ⟨a5, e5, rfl, hO5, hB5⟩
      have HO5 := Lib.hid hO5
      have HO6 := Lib.hid (HO4.out.below hB5)
      have HC5 := Lib.hid (Up.of HC4.out hB5)
      clear hO5 hB5
      go_wp2_with fail
      refine (eqZS_any _ _ _ _ _ zs _ HO6.out.ints.2 HO5.out.ints.2 HZ.out (by omega)).mono ?_
      rintro e w6 ⟨rfl, hU⟩
      have HC6 := Lib.hid (Up.of HC5.out hU.below)
      clear hU
      go_wp2
      go_ret
      exact ⟨rfl, up_of_below (HW0.out.trans (HC6.out.mono HW0.out.size))⟩
  · rw [if_neg (show ¬ (n : Int) ≤ 1048576 by omega)] at hS
    go_enter Try.func8, Try.ntmps8
    go_wp2_with (first | (go_at_call 23; refine hS.mono ?_; rintro e w' ⟨rfl, rfl⟩))
    go_ret
    exact ⟨rfl, up_of_below ((Below.refl _ _).alloc (Nat.le_refl _) _)⟩

end Go.Proofs.Ytfdpdhinigfpfaa
