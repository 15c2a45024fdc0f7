/-
  The walk of the law on safe states. No condition beyond those that each theorem states.
-/
import Derived.Test.YtlahgikhndjfoaaFo3
import Derived.Test.YtlahgikhndjfoaaClD4
namespace Go.Proofs.Ytlahgikhndjfoaa
open Go.RowKit

theorem ordF_length {n : Nat} {rs : List (List Int)} {fs : List Int} (h : claimsB n rs fs = true) : (ordF n rs fs).length = (orderO rs n fs).length := by
  unfold ordF
  rw [if_pos h, natI_length]

theorem up_safe_any {w w' : World} (h : Up w w') : Up w w' := h
theorem up_sSafe_any {w w' : World} (h : w = w') : Up w w' := by subst h; exact up_of_below (Below.refl _ _)
theorem finish_safe_any (a : Option Addr) (n c g off k kc : Nat) (rs : List (List Int)) (fs : List Int) (w : World) (hz : rs.length = n * 2) (hi : Grid w a rs) (hm : rowsMax rs 1000000000) (hn : n ≤ 1000000000) (hnc : n ≤ c) (hcm : c ≤ maxLen) (hk : k = fs.length) (hfi : Ints w (some ⟨g, off, none⟩) fs) (hk0 : 1 ≤ k) (hk1 : k ≤ 1000000000) :
    Calls Try.prog 12 #[.slice a n c, .slice (some ⟨g, off, none⟩) k kc] w (Made w (ordF n rs fs)) := finish_any a n c g off k kc rs fs w hz hi hm hn hnc hcm hk hfi hk0 hk1
theorem finish_sSafe_any (a : Option Addr) (n c g off k kc : Nat) (rs : List (List Int)) (fs : List Int) (w : World) (hz : rs.length = n * 2) (hi : Grid w a rs) (hm : rowsMax rs 1000000000) (hn : n ≤ 1000000000) (_ : n ≤ c) (_ : c ≤ maxLen) (hk : k = fs.length) (hfi : Ints w (some ⟨g, off, none⟩) fs) (hk0 : 1 ≤ k) (hk1 : k ≤ 1000000000) :
    Calls Try.prog 15 #[.slice a n c, .slice (some ⟨g, off, none⟩) k kc] w (Made w (ordF n rs fs)) := sFinish_any a n c g off k kc rs fs w hz hi hm hn hk hfi hk0 hk1

set_option maxHeartbeats 1000000 in
theorem safe_any (a : Option Addr) (n c g off k kc : Nat) (rs : List (List Int)) (fs : List Int) (w : World) (hz : rs.length = n * 2) (hi : Grid w a rs) (hm : rowsMax rs 1000000000) (hn : n ≤ 1000000000) (hnc : n ≤ c) (hcm : c ≤ maxLen) (hk : k = fs.length) (hfi : Ints w (some ⟨g, off, none⟩) fs) (hk0 : 1 ≤ k) (hk1 : k ≤ 1000000000) :
    Calls Try.prog 8 #[.slice a n c, .slice (some ⟨g, off, none⟩) k kc] w fun e w' => e = .returned (.bool (safeB n rs fs)) ∧ Up w w' := by
  have HV := Lib.hid (fun W (h : Below w.heap.size w W) => valid_any a (some ⟨g, off, none⟩) n c k kc rs fs W hz (hi.below h) hm hn hk (hfi.below h) hk1)
  have HO := Lib.hid (fun W (h : Below w.heap.size w W) => finish_safe_any a n c g off k kc rs fs W hz (hi.below h) hm hn hnc hcm hk (hfi.below h) hk0 hk1)
  clear hi hz hfi hm hk hnc hcm hk0
  cases hV : claimsB n rs fs <;> rw [hV] at HV
  · have HS : Hid (safeB n rs fs = false) := by show safeB n rs fs = false; unfold safeB; rw [hV]; rfl
    clear hV HO
    go_enter Try.func8, Try.ntmps8
    go_wp2_with fail
    refine (HV.out w (Below.refl _ _)).mono ?_
    rintro e w1 hw
    obtain ⟨rfl, hw⟩ := hw
    have hU := up_safe_any hw
    clear hw
    go_wp2
    go_ret
    exact ⟨by rw [HS.out]; rfl, hU⟩
  · have HS : Hid (safeB n rs fs = decide ((orderO rs n fs).length = n)) := by show safeB n rs fs = _; unfold safeB; rw [hV]; rfl
    have HL := Lib.hid (ordF_length hV)
    clear hV
    go_enter Try.func8, Try.ntmps8
    go_wp2_with fail
    refine (HV.out w (Below.refl _ _)).mono ?_
    rintro e w1 hw
    obtain ⟨rfl, hw⟩ := hw
    have HU := Lib.hid (up_safe_any hw).below
    clear hw
    go_wp2_with fail
    refine (HO.out _ HU.out).mono ?_
    rintro e w2 ⟨a1, c1, rfl, _, hB⟩
    have HB := Lib.hid (HU.out.trans (hB.mono HU.out.size))
    rw [HL.out]
    clear hB
    generalize (orderO rs n fs).length = L at HS
    by_cases hL : L = n
    · subst hL
      go_wp2
      go_ret
      exact ⟨by rw [HS.out]; simp, up_of_below HB.out⟩
    · have hL' : ((L : Int) == (n : Int)) = false := by simp; omega
      have HS : Hid (safeB n rs fs = false) := by show safeB n rs fs = false; rw [HS.out]; simp [hL]
      clear hL
      go_wp2
      go_ret
      exact ⟨by rw [HS.out]; rfl, up_of_below HB.out⟩


set_option maxHeartbeats 1000000 in
theorem sSafe_any (a : Option Addr) (n c g off k kc : Nat) (rs : List (List Int)) (fs : List Int) (w : World) (hz : rs.length = n * 2) (hi : Grid w a rs) (hm : rowsMax rs 1000000000) (hn : n ≤ 1000000000) (hnc : n ≤ c) (hcm : c ≤ maxLen) (hk : k = fs.length) (hfi : Ints w (some ⟨g, off, none⟩) fs) (hk0 : 1 ≤ k) (hk1 : k ≤ 1000000000) :
    Calls Try.prog 9 #[.slice a n c, .slice (some ⟨g, off, none⟩) k kc] w fun e w' => e = .returned (.bool (safeB n rs fs)) ∧ Up w w' := by
  have HV := Lib.hid (fun W (h : Below w.heap.size w W) => sValid_any a (some ⟨g, off, none⟩) n c k kc rs fs W hz (hi.below h) hm hn hk (hfi.below h) hk1)
  have HO := Lib.hid (fun W (h : Below w.heap.size w W) => finish_sSafe_any a n c g off k kc rs fs W hz (hi.below h) hm hn hnc hcm hk (hfi.below h) hk0 hk1)
  clear hi hz hfi hm hk hnc hcm hk0
  cases hV : claimsB n rs fs <;> rw [hV] at HV
  · have HS : Hid (safeB n rs fs = false) := by show safeB n rs fs = false; unfold safeB; rw [hV]; rfl
    clear hV HO
    go_enter Try.func9, Try.ntmps9
    go_wp2_with fail
    refine (HV.out w (Below.refl _ _)).mono ?_
    rintro e w1 hw
    obtain ⟨rfl, hw⟩ := hw
    have hU := up_sSafe_any hw
    clear hw
    go_wp2
    go_ret
    exact ⟨by rw [HS.out]; rfl, hU⟩
  · have HS : Hid (safeB n rs fs = decide ((orderO rs n fs).length = n)) := by show safeB n rs fs = _; unfold safeB; rw [hV]; rfl
    have HL := Lib.hid (ordF_length hV)
    clear hV
    go_enter Try.func9, Try.ntmps9
    go_wp2_with fail
    refine (HV.out w (Below.refl _ _)).mono ?_
    rintro e w1 hw
    obtain ⟨rfl, hw⟩ := hw
    have HU := Lib.hid (up_sSafe_any hw).below
    clear hw
    go_wp2_with fail
    refine (HO.out _ HU.out).mono ?_
    rintro e w2 ⟨a1, c1, rfl, _, hB⟩
    have HB := Lib.hid (HU.out.trans (hB.mono HU.out.size))
    rw [HL.out]
    clear hB
    generalize (orderO rs n fs).length = L at HS
    by_cases hL : L = n
    · subst hL
      go_wp2
      go_ret
      exact ⟨by rw [HS.out]; simp, up_of_below HB.out⟩
    · have hL' : ((L : Int) == (n : Int)) = false := by simp; omega
      have HS : Hid (safeB n rs fs = false) := by show safeB n rs fs = false; rw [HS.out]; simp [hL]
      clear hL
      go_wp2
      go_ret
      exact ⟨by rw [HS.out]; rfl, up_of_below HB.out⟩

/-! ### twice as much -/
def tw (fs : List Int) (j : Nat) : List Int := (List.range j).map fun t => min 100 (2 * fs.getD t 0)
theorem tw_length (fs : List Int) (j : Nat) : (tw fs j).length = j := by simp [tw]
theorem tw_snoc (fs : List Int) (j : Nat) : tw fs (j + 1) = tw fs j ++ [min 100 (2 * fs.getD j 0)] := by simp [tw, List.range_succ]
theorem tw_getD {fs : List Int} {j t : Nat} (h : t < j) : (tw fs j).getD t 0 = min 100 (2 * fs.getD t 0) := by simp [tw, h]
theorem tw_safe {n : Nat} {rs : List (List Int)} {fs : List Int} (hC : claimsB n rs fs = true) (h : safeB n rs fs = true) : safeB n rs (tw fs fs.length) = true := by
  obtain ⟨h1, h2, h3, h4⟩ := claims_t hC
  have hC2 : claimsB n rs (tw fs fs.length) = true := by
    unfold claimsB
    simp only [Bool.and_eq_true, decide_eq_true_eq, tw_length]
    refine ⟨⟨⟨h1, h2⟩, ?_⟩, ?_⟩
    · refine allB_t.2 fun j hj => ?_
      rw [tw_length] at hj
      have := small_at h3 hj
      unfold okN
      rw [tw_getD hj, inB_t]
      omega
    · unfold claimsB at hC
      simp only [Bool.and_eq_true] at hC
      exact hC.2
  unfold safeB at h ⊢
  rw [hC2]
  rw [hC] at h
  simp only [Bool.true_and, decide_eq_true_eq] at h ⊢
  refine order_more (fun i hi j hj => (hold_small hC hi hj).1) (tw_length _ _) (fun j hj => ?_) h
  have := small_at h3 hj
  rw [tw_getD hj]
  omega
theorem safe_none {n : Nat} {rs : List (List Int)} {fs : List Int} (hC : claimsB n rs fs = true) : safeB 0 [] fs = true := by
  obtain ⟨h1, h2, h3, h4⟩ := claims_t hC
  have hC2 : claimsB 0 [] fs = true := by
    unfold claimsB
    simp only [Bool.and_eq_true, decide_eq_true_eq]
    exact ⟨⟨⟨by omega, h2⟩, h3⟩, rfl⟩
  unfold safeB
  rw [hC2]
  simp [orderO, runO]

set_option maxHeartbeats 2000000 in
theorem lawStateSafe_any (a : Option Addr) (n c : Nat) (w : World) (hb : Bytes w w.heap.size a n) (hnc : n ≤ c) (hcm : c ≤ maxLen) :
    Calls Try.prog 3 #[.slice a n c] w fun e w' => e = .returned (.bool true) ∧ Up w w' := by
  have hmm : c ≤ 9223372036854775807 := by unfold maxLen at hcm; omega
  by_cases hn : n ≤ 1048576
  · go_enter Try.func3, Try.ntmps3
    go_wp2_with (go_at_call 7; refine (drawStateSafe_any _ _ _ _ hb hnc hcm).mono ?_; rintro e w1 ⟨m, c1, g, rs, fa, fc, k, fs, p1, p2, p3, p4, p5, p6, p7, p8, p9, p10, rfl, hG, hI, hW⟩)
    obtain ⟨g2, off2, rfl, hI2⟩ : ∃ g2 off2, fa = some ⟨g2, off2, none⟩ ∧ Ints w1 (some ⟨g2, off2, none⟩) fs := by
      rcases hI with h0 | ⟨b, o, e, h⟩
      · rw [h0] at p7; simp at p7; omega
      · exact ⟨b, o, e, e ▸ .inr ⟨b, o, e, h⟩⟩
    have HW := Lib.hid hW
    have HG := Lib.hid hG
    have HI := Lib.hid hI2
    have HZ := Lib.hid p6
    have HF := Lib.hid p7
    have HR : Hid (rowsMax rs 1000000000) := fun i => by have := p10 i; omega
    have P3 := Lib.hid p3
    have SF := Lib.hid (fun W hG hI => safe_any (some ⟨g, 0, none⟩) m c1 g2 off2 k fc rs fs W p6 hG HR.out (by omega) p2 p3 p7.symm hI p8 (by omega))
    have SS := Lib.hid (fun W hG hI => sSafe_any (some ⟨g, 0, none⟩) m c1 g2 off2 k fc rs fs W p6 hG HR.out (by omega) p2 p3 p7.symm hI p8 (by omega))
    unfold maxLen at p3 p5
    clear hb hW hG hI hI2 p6 p7 p10
    go_wp2_with fail
    refine (SF.out _ HG.out HI.out).mono ?_
    rintro e w2 ⟨rfl, hU⟩
    have HG := Lib.hid (HG.out.below hU.below)
    have HI := Lib.hid (HI.out.below hU.below)
    have HW := Lib.hid (HW.out.trans (hU.below.mono HW.out.size))
    clear hU
    go_wp2_with fail
    refine (SS.out _ HG.out HI.out).mono ?_
    rintro e w3 ⟨rfl, hU⟩
    have HG := Lib.hid (HG.out.below hU.below)
    have HI := Lib.hid (HI.out.below hU.below)
    have HW := Lib.hid (HW.out.trans (hU.below.mono HW.out.size))
    have CV := Lib.hid (sValid_any (some ⟨g, 0, none⟩) (some ⟨g2, off2, none⟩) m c1 k fc rs fs w3 HZ.out HG.out HR.out (by omega) HF.out.symm HI.out (by omega))
    clear hU SF SS
    cases hC : claimsB m rs fs <;> rw [hC] at CV
    · have hs : safeB m rs fs = false := by unfold safeB; rw [hC]; rfl
      rw [hs]
      clear hC
      go_wp2_with fail
      refine CV.out.mono ?_
      rintro e w4 ⟨rfl, rfl⟩
      go_wp2_with ((go_at_call 11; refine (alive_any _).mono ?_; rintro e w' ⟨rfl, rfl⟩))
      go_ret
      exact ⟨rfl, up_of_below HW.out⟩
    · obtain ⟨hm6, hk4, hsm, _⟩ := claims_t hC
      have HSm := Lib.hid hsm
      have S0 := Lib.hid (fun W (hI : Ints W (some ⟨g2, off2, none⟩) fs) => (show Calls Try.prog 8 #[.slice none 0 0, .slice (some ⟨g2, off2, none⟩) k fc] W fun e w' => e = .returned (.bool true) ∧ Up W w' by
        have h := safe_any none 0 0 g2 off2 k fc [] fs W rfl (.inl rfl) (fun i => by simp) (by omega) (by omega) (by unfold maxLen; omega) HF.out.symm hI p8 (by omega)
        rwa [safe_none hC] at h))
      have ST := Lib.hid (fun (h : safeB m rs fs = true) W (g3 c3 : Nat) (hG : Grid W (some ⟨g, 0, none⟩) rs) (hI : Ints W (some ⟨g3, 0, none⟩) (tw fs k)) => (show Calls Try.prog 8 #[.slice (some ⟨g, 0, none⟩) m c1, .slice (some ⟨g3, 0, none⟩) k c3] W fun e w' => e = .returned (.bool true) ∧ Up W w' by
        have h2 := safe_any (some ⟨g, 0, none⟩) m c1 g3 0 k c3 rs (tw fs k) W HZ.out hG HR.out (by omega) p2 P3.out (tw_length _ _).symm hI p8 (by omega)
        have h3 := tw_safe hC h
        rw [HF.out] at h3
        rwa [h3] at h2))
      have OF := Lib.hid (fun W hG hI => finish_any (some ⟨g, 0, none⟩) m c1 g2 off2 k fc rs fs W HZ.out hG HR.out (by omega) p2 P3.out HF.out.symm hI p8 (by omega))
      have HL := Lib.hid (ordF_length hC)
      have HSa : Hid (safeB m rs fs = decide ((orderO rs m fs).length = m)) := by show safeB m rs fs = _; unfold safeB; rw [hC]; rfl
      clear hC hsm
      generalize safeB m rs fs = sb at ST HSa ⊢
      go_wp2_with fail
      refine CV.out.mono ?_
      rintro e w4 ⟨rfl, rfl⟩
      go_wp2
      go_loopw [6, 7] (fun v' iv wr => ∃ j : Nat, j ≤ k ∧ iv = .int .i64 j ∧ Hid (Own wr w3.heap.size v' (tw fs j)) ∧ Hid (Below w3.heap.size w3 wr)) (fun _ iv _ => k - (intOf iv).toNat)
      case atStart => exact ⟨0, Nat.zero_le _, rfl, Own.made w3 w3.heap.size (Nat.le_refl _), (Below.refl _ _).alloc (Nat.le_refl _) _⟩
      case round =>
        obtain ⟨j, hj, rfl, HO, HB⟩ := hrel
        by_cases hlt : j < k
        · have hlt' : (j : Int) < (k : Int) := by omega
          rcases (HI.out.below HB.out) with h0 | ⟨b5, o5, e5, hc⟩
          · exfalso; have := HF.out; rw [h0] at this; simp at this; omega
          simp only [Option.some.injEq, Addr.mk.injEq, and_true] at e5
          obtain ⟨rfl, rfl⟩ := e5
          have c0 := hc j (by rw [HF.out]; exact hlt)
          clear hc
          have hx := small_at HSm.out (j := j) (by rw [HF.out]; exact hlt)
          have HTw := Lib.hid (tw_snoc fs j)
          generalize fs.getD j 0 = x at c0 hx HTw
          obtain ⟨hx0, hx1⟩ := hx
          have hBs := HB.out.size
          by_cases h100 : 2 * x < 100
          · have h100' : ¬ 100 < 2 * x := by omega
            go_wp2_with (
              at_builtin
              refine wpList_app rfl _ _ rfl w3.heap.size _ (tw fs j) rfl ?_ _ (2 * x) rfl ?_ ?_ ?_ ?_
              case refine_1 => exact HO.out.alloc _
              case refine_2 => exact cell_new' rfl rfl
              case refine_3 => rw [tw_length]; omega
              case refine_4 => simp; omega
              intro v1 w5 hown hgrow
              have HO5 := Lib.hid hown
              have HB5 := Lib.hid ((HB.out.alloc hBs _).grown hgrow (by simp; omega) (fun q hq => (HO.out.lt q hq).1))
              clear hown hgrow)
            go_roundw
            case rel =>
              refine ⟨j + 1, by omega, by go_num, ?_, HB5.out⟩
              show Own _ _ _ (tw fs (j + 1))
              rw [HTw.out, show min 100 (2 * x) = 2 * x by omega]
              exact HO5.out
            case measure => simp [intOf]; omega
          · have h100' : 100 ≤ 2 * x := by omega
            go_wp2_with (
              at_builtin
              refine wpList_app rfl _ _ rfl w3.heap.size _ (tw fs j) rfl ?_ _ (100) rfl ?_ ?_ ?_ ?_
              case refine_1 => exact HO.out.alloc _
              case refine_2 => exact cell_new' rfl rfl
              case refine_3 => rw [tw_length]; omega
              case refine_4 => simp; omega
              intro v1 w5 hown hgrow
              have HO5 := Lib.hid hown
              have HB5 := Lib.hid ((HB.out.alloc hBs _).grown hgrow (by simp; omega) (fun q hq => (HO.out.lt q hq).1))
              clear hown hgrow)
            go_roundw
            case rel =>
              refine ⟨j + 1, by omega, by go_num, ?_, HB5.out⟩
              show Own _ _ _ (tw fs (j + 1))
              rw [HTw.out, show min 100 (2 * x) = 100 by omega]
              exact HO5.out
            case measure => simp [intOf]; omega
        · have hlt' : ¬ (j : Int) < (k : Int) := by omega
          obtain rfl : j = k := by omega
          obtain ⟨a6, c6, hv6, hl6, hc6, hi6⟩ := HO.out.form
          rw [tw_length] at hv6
          obtain ⟨g6, rfl, hi7⟩ : ∃ g6, a6 = some ⟨g6, 0, none⟩ ∧ Ints wr (some ⟨g6, 0, none⟩) (tw fs j) := by
            have h6 := HO.out
            rw [hv6] at h6
            rcases h6.2 with ⟨_, h0⟩ | ⟨g', cap, cur, e, _⟩
            · rw [tw_length] at h0; omega
            · simp only [Value.slice.injEq] at e
              exact ⟨g', e.1, e.1 ▸ hi6⟩
          subst hv6
          have HT := Lib.hid hi7
          have HGr := Lib.hid (HG.out.below HB.out)
          have HIr := Lib.hid (HI.out.below HB.out)
          have HWr := Lib.hid (HW.out.trans (HB.out.mono HW.out.size))
          clear hl6 hc6 hi6 hi7
          go_wp2_with fail
          refine (S0.out _ HIr.out).mono ?_
          rintro e w6 ⟨rfl, hU⟩
          have HT := Lib.hid (HT.out.below hU.below)
          have HGr := Lib.hid (HGr.out.below hU.below)
          have HIr := Lib.hid (HIr.out.below hU.below)
          have HWr := Lib.hid (HWr.out.trans (hU.below.mono HWr.out.size))
          clear hU S0
          cases sb
          · have HL2 : Hid ((orderO rs m fs).length ≠ m) := fun h => by have := HSa.out; simp [h] at this
            go_wp2_with fail
            refine (OF.out _ HGr.out HIr.out).mono ?_
            rintro e w7 ⟨a7, c7, rfl, _, hB⟩
            have HWr := Lib.hid (HWr.out.trans (hB.mono HWr.out.size))
            have hne := HL2.out
            rw [← HL.out] at hne
            clear hB
            generalize (ordF m rs fs).length = L at hne ⊢
            have hL' : ((L : Int) == (m : Int)) = false := by simp; omega
            clear hne
            go_wp2
            go_ret
            exact ⟨rfl, up_of_below HWr.out⟩
          · have ST2 := Lib.hid (ST.out rfl)
            clear ST
            have HL2 : Hid ((orderO rs m fs).length = m) := by have := HSa.out; show _ = _; simpa using this.symm
            go_wp2_with fail
            refine (ST2.out _ _ _ HGr.out HT.out).mono ?_
            rintro e w8 ⟨rfl, hU⟩
            have HGr := Lib.hid (HGr.out.below hU.below)
            have HIr := Lib.hid (HIr.out.below hU.below)
            have HWr := Lib.hid (HWr.out.trans (hU.below.mono HWr.out.size))
            clear hU
            go_wp2_with fail
            refine (OF.out _ HGr.out HIr.out).mono ?_
            rintro e w7 ⟨a7, c7, rfl, _, hB⟩
            have HWr := Lib.hid (HWr.out.trans (hB.mono HWr.out.size))
            rw [HL.out, HL2.out]
            clear hB
            go_wp2
            go_ret
            exact ⟨rfl, up_of_below HWr.out⟩
  · go_enter Try.func3, Try.ntmps3
    go_wp2
    go_ret
    exact ⟨rfl, up_of_below (Below.refl _ _)⟩

end Go.Proofs.Ytlahgikhndjfoaa
