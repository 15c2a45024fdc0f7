/-
  The walk of the law on motors that come to rest. No condition.
-/
import Derived.Test.YtelcaafnjahbkaaMoL2
namespace Go.Proofs.Ytelcaafnjahbkaa
open Go.RowKit

set_option maxHeartbeats 4000000 in
theorem lawMotorRest_any (a : Option Addr) (n c : Nat) (w : World) (hb : Bytes w w.heap.size a n) (hnc : n ≤ c) (hcm : c ≤ maxLen) :
    Calls Try.prog 9 #[.slice a n c] w fun e w' => e = .returned (.bool true) ∧ Up w w' := by
  have hmm : c ≤ 9223372036854775807 := by unfold maxLen at hcm; omega
  by_cases hn : n ≤ 1048576
  · go_enter Try.func9, Try.ntmps9
    go_wp2_with (go_at_call 26; refine (drawBrakeTorque_any _ _ _ _ hb hnc hcm).mono ?_; rintro e w1 ⟨x, y, hM, rfl, os0, d0, rfl⟩)
    obtain ⟨⟨m1, m2⟩, m3, m4⟩ := hM
    obtain ⟨XA, hXA⟩ : ∃ X, stepA x y 0 1 = X := ⟨_, rfl⟩
    obtain ⟨XS, hXS⟩ : ∃ X, stepS x y 0 1 = X := ⟨_, rfl⟩
    cases hv : motB x y
    · have e0 : stepA x y 0 1 = 0 := by rw [stepA, stepB, hv]; rfl
      have e1 : stepS x y 0 1 = 0 := by rw [stepS, stepB, hv]; rfl
      obtain rfl : XA = 0 := hXA.symm.trans e0
      obtain rfl : XS = 0 := hXS.symm.trans e1
      clear e0 e1
      go_wp2_with (first | (go_at_call 24; refine (motorStep_any _ _ _ _ _).mono ?_; rintro e w1 ⟨rfl, hup⟩; (first | (replace hup := up_join hup) | skip); obtain ⟨os2, dos2, rfl⟩ := hup))
      go_region_held3 (fun W => W.cell? ⟨w.heap.size + os0.size, 0, none⟩ = some (.int .i64 x) ∧ W.cell? ⟨w.heap.size + os0.size, 1, none⟩ = some (.int .i64 y) ∧ W.cell? ⟨w.heap.size + os0.size + 1 + os2.size, 0, none⟩ = some (.int .i64 0) ∧ W.cell? ⟨w.heap.size + os0.size + 1 + os2.size, 1, none⟩ = some (.int .i64 0)) (simp [go_sem]) (first | (go_at_call 23; refine (sMotorStep_any _ _ _ _ _).mono ?_; rintro e w1 ⟨rfl, os, d, rfl⟩))
      all_goals
        go_wp2_with (first | (go_at_call 14; refine (sMotorValid_any _ _ _).mono ?_; rintro e w1 ⟨rfl, os, d, rfl⟩) | (go_at_call 22; refine (alive_any _).mono ?_; rintro e w' ⟨rfl, rfl⟩))
        go_ret
        exact ⟨rfl, up_of_below (by repeat (first | with_reducible exact Below.refl _ _ | with_reducible apply below_alloc | with_reducible apply below_drw | with_reducible apply below_drew | with_reducible apply below_drewN | with_reducible apply below_plus | with_reducible apply below_set | (simp; done)))⟩
    · obtain ⟨hXv, hXb⟩ := rest_step hv
      rw [hXA, hXS] at hXv
      rw [hXS] at hXb
      have HXv := Lib.hid hXv
      have HXb := Lib.hid hXb
      clear hXv hXb
      have hyb : 0 ≤ absF y ∧ absF y ≤ 201 := by unfold absF; omega
      obtain ⟨yb1, yb2⟩ := hyb
      go_wp2_with (first | (go_at_call 24; refine (motorStep_any _ _ _ _ _).mono ?_; rintro e w1 ⟨rfl, hup⟩; (first | (replace hup := up_join hup) | skip); obtain ⟨os2, dos2, rfl⟩ := hup))
      go_region_held3 (fun W => W.cell? ⟨w.heap.size + os0.size, 0, none⟩ = some (.int .i64 x) ∧ W.cell? ⟨w.heap.size + os0.size, 1, none⟩ = some (.int .i64 y) ∧ W.cell? ⟨w.heap.size + os0.size + 1 + os2.size, 0, none⟩ = some (.int .i64 XA) ∧ W.cell? ⟨w.heap.size + os0.size + 1 + os2.size, 1, none⟩ = some (.int .i64 XS)) (simp [go_sem]) (first | (go_at_call 23; refine (sMotorStep_any _ _ _ _ _).mono ?_; rintro e w1 ⟨rfl, os, d, rfl⟩))
      all_goals
        go_wp2_with (first | (go_at_call 14; refine (sMotorValid_any _ _ _).mono ?_; rintro e w1 ⟨rfl, hup⟩; (first | (replace hup := up_join hup) | skip); obtain ⟨os3, dos3, rfl⟩ := hup))
        clear hXA hXS hv
        go_loopw [5] (fun kv wr => ∃ (k xa xs : Int) (os : Array Obj) (d : Nat), kv = .int .i64 k ∧ 1 ≤ k ∧ k ≤ 300 ∧ Hid (motB xa xs = true) ∧ Hid (absF xs ≤ max (absF y - k) 0) ∧ wr = plus ((plus ((plus w os0 d0).alloc (.cells #[.int .i64 x, .int .i64 y] 25)) os2 dos2).alloc (.cells #[.int .i64 xa, .int .i64 xs] 25)) os d) (fun kv _ => (absF y - intOf kv).toNat)
        case atStart => exact ⟨1, XA, XS, _, _, rfl, by omega, by omega, HXv, HXb, rfl⟩
        case round =>
          obtain ⟨k, xa, xs, os, d, rfl, hk1, hk2, HV, HB, rfl⟩ := hrel
          by_cases hlt : k < absF y
          · have hst := rest_step HV.out
            obtain ⟨ZA, hZA⟩ : ∃ X, stepA xa xs 0 1 = X := ⟨_, rfl⟩
            obtain ⟨ZS, hZS⟩ : ∃ X, stepS xa xs 0 1 = X := ⟨_, rfl⟩
            rw [hZA, hZS] at hst
            have HS := Lib.hid hst
            clear hst
            go_wp2_with (first | (go_at_call 27; refine (abs_any _ _ (by omega) (by omega)).mono ?_; rintro e w' ⟨rfl, rfl⟩) | (go_at_call 24; refine (motorStep_any _ _ _ _ _).mono ?_; rintro e w1 ⟨rfl, hup⟩; (first | (replace hup := up_join hup) | skip); obtain ⟨os4, dos4, rfl⟩ := hup))
            go_roundw
            case rel => exact ⟨k + 1, ZA, ZS, _, _, rfl, by omega, by omega, HS.out.1, by have h1 := HS.out.2; have h2 := HB.out; show absF ZS ≤ _; omega, rfl⟩
            case measure => simp [intOf]; omega
          · have hz : xs = 0 := by
              have := HB.out
              unfold absF at this hlt
              omega
            subst hz
            go_wp2_with (first | (go_at_call 27; refine (abs_any _ _ (by omega) (by omega)).mono ?_; rintro e w' ⟨rfl, rfl⟩))
            go_ret
            exact ⟨rfl, up_of_below (by repeat (first | with_reducible exact Below.refl _ _ | with_reducible apply below_alloc | with_reducible apply below_drw | with_reducible apply below_drew | with_reducible apply below_drewN | with_reducible apply below_plus | with_reducible apply below_set | (simp; done)))⟩
  · go_enter Try.func9, Try.ntmps9
    go_wp2
    go_ret
    exact ⟨rfl, up_of_below (Below.refl _ _)⟩

end Go.Proofs.Ytelcaafnjahbkaa
