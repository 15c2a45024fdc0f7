/-
  The walk of the law on the places of a tool that presses. No condition.
-/
import Derived.Test.YtjklepabliehdaaTr
import Derived.Test.YtjklepabliehdaaCtDraw3
namespace Go.Proofs.Ytjklepabliehdaa
open Go.RowKit

/-! ### plain -/
theorem prs_rest {p v k f s : Int} (hB : prsB p v k f s = true) (h : prsF p v k f s = p) : frc p v k ≤ f ∧ (p = 10000 ∨ f < frc (p + 1) v k) := by
  obtain ⟨⟨⟨p1, p2⟩, ⟨v1, v2⟩, k1, k2⟩, ⟨f1, f2⟩, s1, s2⟩ := prsB_t.1 hB
  rw [prsF, if_pos hB, prsG, prsD] at h
  split at h
  · rename_i hc
    have hp : p = -10000 := by unfold clampF at h; omega
    have hz : frc p v k = 0 := by unfold frc; rw [show max (p - v) 0 = 0 by omega]; omega
    omega
  · rename_i hc
    refine ⟨by omega, ?_⟩
    split at h
    · left; unfold clampF at h; omega
    · split at h
      · rename_i h1
        right
        exact (frc_gt (p := p + 1) (w := v) k1 f1).2 h1
      · left; unfold clampF at h; omega
theorem prs_in {p v k f s : Int} (hB : prsB p v k f s = true) : prsB (prsF p v k f s) v k f s = true := by
  have hv := prsB_t.1 hB
  refine prsB_t.2 ⟨⟨?_, hv.1.2⟩, hv.2⟩
  rw [prsF, if_pos hB]
  exact clampF_bd (by omega)
theorem it_in {p v k f s : Int} (hB : prsB p v k f s = true) : ∀ n, prsB (it (prsStep v k f s) p n) v k f s = true
  | 0 => hB
  | n + 1 => prs_in (it_in hB n)

/-! ### the walk -/
set_option maxHeartbeats 8000000 in
theorem lawPressTrace_any (a : Option Addr) (n c : Nat) (w : World) (hb : Bytes w w.heap.size a n) (hnc : n ≤ c) (hcm : c ≤ maxLen) :
    Calls Try.prog 10 #[.slice a n c] w fun e w' => e = .returned (.bool true) ∧ Up w w' := by
  have hmm : c ≤ 9223372036854775807 := by unfold maxLen at hcm; omega
  by_cases hn : n ≤ 1048576
  · go_enter Try.func10, Try.ntmps10
    go_wp2_with (go_at_call 30; refine (drawPressTrace_any _ _ _ _ hb hnc hcm).mono ?_; rintro e w1 ⟨p, v, k, f, s, m, ⟨⟨p1, p2⟩, ⟨v1, v2⟩, k1, k2⟩, ⟨⟨f1, f2⟩, s1, s2⟩, ⟨m1, m2⟩, rfl, os0, d0, rfl⟩)
    have C2 := Lib.hid (fun W => trace_any p v k f s m W)
    have C1 := Lib.hid (fun W => sTrace_any p v k f s m W)
    refine (C2.out _).mono ?_
    rintro e w1 ⟨a1, n1, rfl, hO1, hB1⟩
    have HO1 := Lib.hid hO1
    have HB1 := Lib.hid hB1
    clear hO1 hB1
    go_wp2_with fail
    refine (C1.out _).mono ?_
    rintro e w2 ⟨a2, n2, rfl, hO2, hB2⟩
    have HI1 := Lib.hid (HO1.out.below hB2).ints.2
    have HI2 := Lib.hid hO2.ints.2
    have HB2 := Lib.hid hB2
    clear hO2 hB2 C1 C2
    have hlen := trF_len p v k f s m
    go_wp2_with fail
    refine (sameInts_any _ _ _ _ _ (trF p v k f s m) _ HI1.out HI2.out rfl (by omega)).mono ?_
    rintro e w3 ⟨rfl, d, rfl⟩
    have HU : Hid (Below w.heap.size w w2) := (below_plus (Below.refl _ _) _ _).trans ((HB1.out.mono (by simp [plus])).trans (HB2.out.mono (Nat.le_trans (by simp [plus]) HB1.out.size)))
    clear HI2 HO1 HB1 HB2 hlen
    cases hT : trB p v k f s m
    · have hz : trF p v k f s m = [] := by rw [trF, hT]; rfl
      rw [hz] at HI1 ⊢
      clear HI1 hT hz
      go_wp2
      go_quiet (fail)
      go_wp2_with (first | (go_at_call 16; refine (alive_any _).mono ?_; rintro e w' ⟨rfl, rfl⟩))
      go_ret
      exact ⟨rfl, up_of_below (below_drw HU.out _)⟩
    · obtain ⟨hP, m3, m4⟩ := trB_t.1 hT
      have hz : trF p v k f s m = tr (prsStep v k f s) p m.toNat := by rw [trF, if_pos hT]
      obtain ⟨N, rfl⟩ := Int.eq_ofNat_of_zero_le m3
      rw [Int.toNat_natCast] at hz
      rw [hz] at HI1
      rw [hz, tr_length]
      have hN : N ≤ 400 := by omega
      have hin := it_in hP
      have hstep : ∀ j, it (prsStep v k f s) p (j + 1) = prsF (it (prsStep v k f s) p j) v k f s := fun j => rfl
      have HIN := Lib.hid hin
      have HST := Lib.hid hstep
      clear hT hz hin hstep hP
      by_cases h2 : N < 2
      · clear HI1 HIN HST
        rcases (show N = 0 ∨ N = 1 by omega) with rfl | rfl
        all_goals
          go_wp2
          go_quiet (fail)
          go_wp2_with (first | (go_at_call 16; refine (alive_any _).mono ?_; rintro e w' ⟨rfl, rfl⟩))
          go_ret
          exact ⟨rfl, up_of_below (below_drw HU.out _)⟩
      · obtain ⟨j, rfl⟩ : ∃ j, N = j + 2 := ⟨N - 2, by omega⟩
        rcases HI1.out with h0 | ⟨blk, off, rfl, hc⟩
        · exfalso
          have := congrArg List.length h0
          rw [tr_length] at this
          simp at this
        rw [tr_length] at hc
        have c1 := hc (j + 1) (by omega)
        have c2 := hc j (by omega)
        rw [tr_getD _ _ (by omega)] at c1 c2
        obtain ⟨E1, hE1⟩ : ∃ E, it (prsStep v k f s) p (j + 1 + 1) = E := ⟨_, rfl⟩
        obtain ⟨E2, hE2⟩ : ∃ E, it (prsStep v k f s) p (j + 1) = E := ⟨_, rfl⟩
        have g1 := HST.out (j + 1)
        have g2 := HIN.out (j + 1)
        rw [hE1, hE2] at g1
        rw [hE2] at g2
        rw [hE1] at c1
        rw [hE2] at c2
        clear hE1 hE2 hc HI1 HIN HST h2
        obtain ⟨L, hL⟩ : ∃ L : Nat, L = j + 2 := ⟨_, rfl⟩
        rw [← hL] at hN m1 m2 m3 m4 ⊢
        have i1 : j + 1 = L - 1 := by omega
        have i2 : j = L - 2 := by omega
        rw [i1] at c1
        rw [i2] at c2
        have u0 : 2 ≤ L := by omega
        clear i1 i2 hL
        have u1 : IntKind.i64.wrap ((L : Int) - 1) = L - 1 := IntWalk.i64_in _ (by omega)
        have u2 : IntKind.i64.wrap ((L : Int) - 2) = L - 2 := IntWalk.i64_in _ (by omega)
        have u3 : ((L : Int) - 1).toNat = L - 1 := by omega
        have u4 : ((L : Int) - 2).toNat = L - 2 := by omega
        have u5 : 1 ≤ (L : Int) := by omega
        have u6 : 2 ≤ (L : Int) := by omega
        have u7 : (L : Int) - 1 < L := by omega
        have u8 : (L : Int) - 2 < L := by omega
        have u9 : decide ((L : Int) < 2) = false := by simp; omega
        have u10 : ((L : Int) == 0) = false := by simp; omega
        have u11 : L - 1 < L := by omega
        have u12 : L - 2 < L := by omega
        by_cases hE : E1 = E2
        · subst hE
          have hr := prs_rest g2 g1.symm
          have hw := prsB_t.1 g2
          have e0 := contactF_t (wallB_t.2 hw.1)
          obtain ⟨F, hF⟩ : ∃ F, contactF E1 v k = F := ⟨_, rfl⟩
          rw [hF] at e0
          rw [← e0] at hr
          obtain ⟨r1, r2⟩ := hr
          have HR : Hid (E1 = 10000 ∨ f < contactF (E1 + 1) v k) := by
            rcases r2 with r2 | r2
            · exact .inl r2
            · by_cases h1 : E1 = 10000
              · exact .inl h1
              · refine .inr ?_
                rw [contactF_t (wallB_t.2 ⟨⟨by omega, by omega⟩, hw.1.2⟩)]
                exact r2
          obtain ⟨q1, q2⟩ := hw.1.1
          clear r2 e0 g1 g2 hw
          go_wp2
          go_quiet (fail)
          by_cases h1 : E1 = 10000
          · subst h1
            go_wp2_with (first | (go_at_call 12; refine (contact_any _ _ _ _).mono ?_; rintro e w' ⟨rfl, rfl⟩))
            go_ret
            exact ⟨rfl, up_of_below (below_drw HU.out _)⟩
          · have r3 : f < contactF (E1 + 1) v k := by rcases HR.out with h | h; exact absurd h h1; exact h
            have b1 : (E1 == 10000) = false := by simp; exact h1
            obtain ⟨F2, hF2⟩ : ∃ F, contactF (E1 + 1) v k = F := ⟨_, rfl⟩
            rw [hF2] at r3
            clear h1
            go_wp2_with (first | (go_at_call 12; refine (contact_any _ _ _ _).mono ?_; rintro e w' ⟨rfl, rfl⟩))
            go_ret
            exact ⟨rfl, up_of_below (below_drw HU.out _)⟩
        · have b1 : (E1 != E2) = true := by simp; exact hE
          clear g1 g2
          go_wp2
          go_quiet (fail)
          go_wp2_with (first | (go_at_call 16; refine (alive_any _).mono ?_; rintro e w' ⟨rfl, rfl⟩))
          go_ret
          exact ⟨rfl, up_of_below (below_drw HU.out _)⟩
  · go_enter Try.func10, Try.ntmps10
    go_wp2
    go_ret
    exact ⟨rfl, up_of_below (Below.refl _ _)⟩

end Go.Proofs.Ytjklepabliehdaa
