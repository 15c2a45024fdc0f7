/-
  The walk of the exact law on valid claims. No condition.
-/
import Derived.Test.YtlahgikhndjfoaaClS2
import Derived.Test.YtlahgikhndjfoaaClV2
namespace Go.Proofs.Ytlahgikhndjfoaa
open Go.RowKit

theorem rowsMax_of {n m : Nat} {rs : List (List Int)} (hz : rs.length = n * 2) (h : ∀ i, i < n → (hold rs i).length ≤ m ∧ (need rs i).length ≤ m) : rowsMax rs m := by
  intro i
  by_cases hi : i < n * 2
  · have h1 := h (i / 2) (by omega)
    unfold hold need at h1
    rcases Nat.mod_two_eq_zero_or_one i with h2 | h2
    · rw [show i = i / 2 * 2 by omega]; exact h1.1
    · rw [show i = i / 2 * 2 + 1 by omega]; exact h1.2
  · rw [List.getD_eq_getElem?_getD, List.getElem?_eq_none (by omega)]; simp

set_option maxHeartbeats 2000000 in
theorem exactClaims_any (a : Option Addr) (n c : Nat) (fa : Option Addr) (k kc : Nat) (w : World) (ha : GivenC w a n c) (hf : k ≤ kc ∧ kc ≤ maxLen ∧ ∃ zs : List Int, zs.length = k ∧ Ints w fa zs) :
    Calls Try.prog 6 #[.slice a n c, .slice fa k kc] w fun e w' => e = .returned (.bool true) ∧ Up w w' := by
  obtain ⟨hnc, hcm, rs, hz, hi⟩ := ha
  obtain ⟨hk1, hk2, fs, hfs, hfi⟩ := hf
  unfold maxLen at hcm hk2
  by_cases hk : k ≤ 1048576
  · have HZ := Lib.hid hz
    have HF := Lib.hid hfs
    have HI := Lib.hid hi
    have HFI := Lib.hid hfi
    clear hz hfs hi hfi
    go_enter Try.func6, Try.ntmps6
    go_wp2_with fail
    refine (szClaimS_any a n c rs w HZ.out HI.out (by omega)).mono ?_
    rintro e w1 ⟨r, rfl, r0, r1, hr, hup⟩
    have HW1 := Lib.hid hup.below
    clear hup
    by_cases hneg : r < 0
    · go_wp2
      go_ret
      exact ⟨rfl, up_of_below HW1.out⟩
    obtain ⟨hn, hm⟩ := hr (by omega)
    have HM := Lib.hid hm
    have HR : Hid (rowsMax rs 1000000000) := rowsMax_of HZ.out (fun i hi => by have := hm i hi; omega)
    clear hr hm
    go_wp2_with fail
    refine (toClaimS_any a n c rs w1 HZ.out (HI.out.below HW1.out) hn HM.out).mono ?_
    rintro e w2 ⟨b1, d1, rfl, hO, hup⟩
    have HG1 := Lib.hid hO.grid.2
    have HW2 := Lib.hid (HW1.out.trans (hup.mono HW1.out.size))
    clear hO hup
    go_wp2_with fail
    refine (toIntS_any fa k kc fs w2 HF.out.symm (HFI.out.below HW2.out) hk).mono ?_
    rintro e w3 ⟨b2, d2, rfl, hO, hup⟩
    rw [HF.out] at hO ⊢
    have HG2 := Lib.hid hO.ints.2
    have HG1 := Lib.hid (HG1.out.below hup)
    have HW3 := Lib.hid (HW2.out.trans (hup.mono HW2.out.size))
    clear hO hup
    go_wp2_with fail
    refine (sValid_any b1 b2 n d1 k d2 rs fs w3 HZ.out HG1.out HR.out (by omega) HF.out.symm HG2.out (by omega)).mono ?_
    rintro e w' ⟨rfl, rfl⟩
    have HVI := Lib.hid (fun b3 d3 b4 d4 W (g : Grid W b3 rs) (f : Ints W b4 fs) => valid_any b3 b4 n d3 k d4 rs fs W HZ.out g HR.out (by omega) HF.out.symm f (by omega))
    generalize claimsB n rs fs = V at HVI ⊢
    go_wp2_with fail
    refine (toClaimS_any a n c rs w3 HZ.out (HI.out.below HW3.out) hn HM.out).mono ?_
    rintro e w4 ⟨b3, d3, rfl, hO, hup⟩
    have HG3 := Lib.hid hO.grid.2
    have HW4 := Lib.hid (HW3.out.trans (hup.mono HW3.out.size))
    clear hO hup HG1 HG2
    go_wp2_with fail
    refine (toIntS_any fa k kc fs w4 HF.out.symm (HFI.out.below HW4.out) hk).mono ?_
    rintro e w5 ⟨b4, d4, rfl, hO, hup⟩
    rw [HF.out] at hO ⊢
    have HG4 := Lib.hid hO.ints.2
    have HG3 := Lib.hid (HG3.out.below hup)
    have HW5 := Lib.hid (HW4.out.trans (hup.mono HW4.out.size))
    clear hO hup
    go_wp2_with fail
    refine (HVI.out b3 d3 b4 d4 w5 HG3.out HG4.out).mono ?_
    rintro e w6 ⟨rfl, hup⟩
    have HG3 := Lib.hid (HG3.out.below hup.below)
    have HG4 := Lib.hid (HG4.out.below hup.below)
    have HW6 := Lib.hid (HW5.out.trans (hup.below.mono HW5.out.size))
    clear hup HVI
    go_wp2_with fail
    refine (toClaimS_any a n c rs w6 HZ.out (HI.out.below HW6.out) hn HM.out).mono ?_
    rintro e w7 ⟨b5, d5, rfl, hO, hup⟩
    have HG5 := Lib.hid hO.grid.2
    have HG3 := Lib.hid (HG3.out.below hup)
    have HG4 := Lib.hid (HG4.out.below hup)
    have HW7 := Lib.hid (HW6.out.trans (hup.mono HW6.out.size))
    clear hO hup
    go_wp2_with fail
    refine (eqClaimS_any b3 b5 d3 d5 n rs w7 HG3.out HG5.out HZ.out (by omega) HM.out).mono ?_
    rintro e w8 ⟨rfl, hup⟩
    have HG4 := Lib.hid (HG4.out.below hup.below)
    have HW8 := Lib.hid (HW7.out.trans (hup.below.mono HW7.out.size))
    clear hup HG3 HG5
    go_wp2_with fail
    refine (toIntS_any fa k kc fs w8 HF.out.symm (HFI.out.below HW8.out) hk).mono ?_
    rintro e w9 ⟨b6, d6, rfl, hO, hup⟩
    rw [HF.out] at hO ⊢
    have HG6 := Lib.hid hO.ints.2
    have HG4 := Lib.hid (HG4.out.below hup)
    have HW9 := Lib.hid (HW8.out.trans (hup.mono HW8.out.size))
    clear hO hup
    go_wp2_with fail
    refine (eqInts_any b4 b6 d4 d6 k fs w9 HG4.out HG6.out HF.out.symm (by omega)).mono ?_
    rintro e w10 ⟨rfl, d, rfl⟩
    go_wp2
    go_ret
    exact ⟨rfl, up_of_below (below_drw HW9.out _)⟩
  · have hk' : 1048576 < k := by omega
    clear hk
    go_enter Try.func6, Try.ntmps6
    go_wp2
    go_ret
    exact ⟨rfl, up_of_below (Below.refl _ _)⟩

end Go.Proofs.Ytlahgikhndjfoaa
