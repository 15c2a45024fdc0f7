/-
  The contract of the reference's first violation, and the walk of the law that the first violations are those of the reference. Condition: the lists are ones that a law can be handed.
-/
import Derived.Test.YtfdpdhinigfpfaaFv
import Derived.Test.YtfdpdhinigfpfaaLiL1
namespace Go.Proofs.Ytfdpdhinigfpfaa
set_option linter.unusedSimpArgs false
open Go.RowKit

theorem ssq_enters (args : Array Value) (w : World) : (callFunc 56 args).run Try.prog w = .ok (.enter 56 args) w := (enters_of Try.func56 (by kernel_rfl) rfl) args w

set_option maxHeartbeats 2000000 in
theorem sFviol_any (a : Option Addr) (m c : Nat) (zs : List Int) (a2 : Option Addr) (n c2 : Nat) (ps : List Int) (w : World) (hz : zs.length = m * 4) (hi : Ints w a zs) (hp : ps.length = n * 2) (hi2 : Ints w a2 ps) (hm : m ≤ 1000000000) (hn : n ≤ 1000000000) :
    Calls Try.prog 32 #[.slice a m c, .slice a2 n c2] w fun e w' => e = .returned (.int .i64 (fvF zs ps m n)) ∧ Up w w' := by
  have HI := Lib.hid hi
  have HJ := Lib.hid hi2
  have HZ := Lib.hid hz
  have HP := Lib.hid hp
  have hv := fun W h => sZvalid_any a m c zs W hz h hm
  clear hi hi2 hz hp
  cases h1 : zonesB m zs <;> rw [h1] at hv
  · have HF : Hid (fvF zs ps m n = -2) := by show fvF zs ps m n = -2; rw [fvF, fvB, h1]; rfl
    go_enter Try.func32, Try.ntmps32
    go_wp2_with (go_at_call 22; refine (hv _ HI.out).mono ?_; rintro e w1 ⟨rfl, os, d, rfl⟩)
    go_ret
    exact ⟨by rw [HF.out]; rfl, up_of_below (by repeat (first | with_reducible exact Below.refl _ _ | with_reducible apply below_alloc | with_reducible apply below_drw | with_reducible apply below_drew | with_reducible apply below_drewN | with_reducible apply below_plus | with_reducible apply below_set | (simp; done)))⟩
  · by_cases h4 : n ≤ 400
    · have h4' : (n : Int) ≤ 400 := by omega
      have h4'' : ¬ (400 : Int) < (n : Int) := by omega
      have HZB := Lib.hid h1
      clear h1
      go_enter Try.func32, Try.ntmps32
      go_wp2_with (go_at_call 22; refine (hv _ HI.out).mono ?_; rintro e w1 ⟨rfl, os, d, rfl⟩)
      clear hv
      go_loopw [5] (fun iv wr => ∃ j : Nat, j ≤ n ∧ iv = .int .i64 j ∧ Hid (∀ i, i < j → okQ ps i = true) ∧ Hid (Below w.heap.size w wr)) (fun iv _ => n - (intOf iv).toNat)
      case atStart => exact ⟨0, Nat.zero_le _, rfl, fun i hi => absurd hi (Nat.not_lt_zero _), by show Below _ _ _; repeat (first | with_reducible exact Below.refl _ _ | with_reducible apply below_alloc | with_reducible apply below_drw | with_reducible apply below_drew | with_reducible apply below_drewN | with_reducible apply below_plus | with_reducible apply below_set | (simp; done))⟩
      case round =>
        obtain ⟨j, hj, rfl, HA, HW⟩ := hrel
        by_cases hlt : j < n
        · have hlt' : (j : Int) < (n : Int) := by omega
          obtain ⟨blk, off, rfl, hb, c0, c1⟩ := (HJ.out.below HW.out).pt HP.out hlt
          have cP := fun W => sPoint_any (qX ps j) (qY ps j) W
          have HQ : Hid (okQ ps j = ptB (qX ps j) (qY ps j)) := rfl
          generalize ptB (qX ps j) (qY ps j) = pb at cP HQ
          generalize qX ps j = x at c0 cP
          generalize qY ps j = y at c1 cP
          have CP := Lib.hid cP
          clear cP
          cases pb
          · have HF : Hid (fvF zs ps m n = -2) := by show fvF zs ps m n = -2; rw [fvF, fvB, allB_no hlt HQ.out, Bool.and_false, Bool.and_false]; rfl
            go_wp2_with (go_at_call 48; refine (CP.out _).mono ?_; rintro e w1 ⟨rfl, os, d, rfl⟩)
            go_ret
            exact ⟨by rw [HF.out]; rfl, up_of_below (below_plus HW.out _ _)⟩
          · go_wp2_with (go_at_call 48; refine (CP.out _).mono ?_; rintro e w1 ⟨rfl, os, d, rfl⟩)
            go_roundw
            case rel => exact ⟨j + 1, by omega, by go_num, fun i hi => by
              by_cases h : i = j
              · subst h; exact HQ.out
              · exact HA.out i (by omega), below_plus HW.out _ _⟩
            case measure => simp [intOf]; omega
        · have hlt' : ¬ (j : Int) < (n : Int) := by omega
          have hE : n = j := by omega
          subst hE
          have hB : fvB zs ps m n = true := by unfold fvB; rw [HZB.out, decide_eq_true h4, allB_t.2 HA.out]; rfl
          have HF : Hid (fvF zs ps m n = fvN zs ps m (n - 1) 0) := by show fvF zs ps m n = _; rw [fvF, if_pos hB]
          have HB := Lib.hid hB
          have HW0 := HW
          clear hB HA HW hlt hlt' hj
          go_wp2
          go_loopw [6, 7] (fun iv _ wr => ∃ j : Nat, (j = 0 ∨ j + 1 ≤ n) ∧ iv = .int .i64 j ∧ Hid (fvN zs ps m (n - 1) 0 = fvN zs ps m (n - 1 - j) j) ∧ Hid (Below w.heap.size w wr)) (fun iv _ _ => n - (intOf iv).toNat)
          case atStart => exact ⟨0, .inl rfl, rfl, rfl, HW0⟩
          case round =>
            obtain ⟨j, hj, rfl, HN, HW⟩ := hrel
            by_cases hlt : j + 1 < n
            · have hjn : (j : Int) < (n : Int) := by omega
              obtain ⟨x, y, x', y', L, S, vb, ex, ey, ex', ey', eL, eS, ev, hlB, hx, hy, hx', hy', hLL, hdec⟩ := viol_step HB.out hlt
              have hIw := HI.out.below HW.out
              obtain ⟨blk, off, rfl, hb, c0, c1⟩ := (HJ.out.below HW.out).pt HP.out (show j < n by omega)
              obtain ⟨blk', off', he, hb', d0, d1⟩ := (HJ.out.below HW.out).pt HP.out hlt
              simp only [Option.some.injEq, Addr.mk.injEq, and_true] at he
              obtain ⟨rfl, rfl⟩ := he
              rw [ex] at c0
              rw [ey] at c1
              rw [ex'] at d0
              rw [ey'] at d1
              have hlim : limN zs x y m = L := eL
              have hstep : fvN zs ps m (n - 1 - j) j = if vb = true then (j : Int) else fvN zs ps m (n - 1 - (j + 1)) (j + 1) := by
                rw [show n - 1 - j = (n - 1 - (j + 1)) + 1 by omega, fvN, ev]
              have cL := Lib.hid (fun W h => l18Limit_any a m c zs x y W HZ.out h hlB)
              rw [hlim] at cL
              have cS := Lib.hid (fun W => sSquare_any x y x' y' W hx hy hx' hy')
              rw [eS] at cS
              have HS := Lib.hid hstep
              have HIw := Lib.hid hIw
              have HD := Lib.hid hdec
              have wL : IntKind.i64.wrap (L * L) = L * L := IntWalk.i64_in _ (by omega)
              obtain ⟨k, hk⟩ : ∃ k, k = j + 1 := ⟨_, rfl⟩
              have wk : IntKind.i64.wrap ((j : Int) + 1) = (k : Int) := by rw [show (j : Int) + 1 = (k : Int) by omega]; exact IntWalk.i64_in _ (by omega)
              have hkn : (k : Int) < (n : Int) := by omega
              rw [← hk] at d0 d1
              have KK := Lib.hid hk
              have C0 := Lib.hid c0
              have C1 := Lib.hid c1
              have D0 := Lib.hid d0
              have D1 := Lib.hid d1
              clear ex ey ex' ey' eL eS ev hlB hx hy hx' hy' hLL hdec hlim hstep hIw hk d0 d1
              go_wp2_with fail
              refine (cL.out _ HIw.out).mono ?_
              rintro e w3 ⟨rfl, hU⟩
              have HU := Lib.hid hU.below
              have HW3 := Lib.hid (HW.out.trans (hU.below.mono HW.out.size))
              clear hU c0 c1
              go_wp2
              refine wp_region_any (by kernel_rfl) ?_
              refine region_last [(41, .slice (some ⟨blk, off, none⟩) n c2), (42, .int .i64 j), (43, .pointer (some ⟨blk, off + j * 2, none⟩)), (44, .agg #[.int .i64 x, .int .i64 y]), (45, .slice (some ⟨blk, off, none⟩) n c2), (46, .int .i64 j), (47, .int .i64 k), (48, .pointer (some ⟨blk, off + k * 2, none⟩)), (49, .agg #[.int .i64 x', .int .i64 y']), (50, .int .i64 S), (51, .int .i64 L), (52, .int .i64 L), (53, .int .i64 (L * L))] _ _ (by kernel_rfl) (by kernel_rfl) ?_ _ rfl ?_
              · simp only [putAll, Act.put, List.setIfInBounds_toArray, List.set_cons_succ, List.set_cons_zero]
                have hbl : ∀ os d, Below wr.heap.size wr (plus w3 os d) := fun os d => HU.out.trans ((below_plus (Below.refl w3.heap.size w3) os d).mono HU.out.size)
                have HBL := Lib.hid hbl
                clear hbl
                refine allPure_cons (pure_move _ (.inl rfl) rfl) ?_
                refine allPure_cons (pure_move _ (.inl rfl) rfl) ?_
                refine allPure_cons (by (refine pure_quiet fun aQ osQ dQ hgQ => ?_; have h1Q : aQ.eval (.tmp 41) = (.slice (some ⟨blk, off, none⟩) n c2) := hgQ (.tmp 41) (by simp [Op.operands, Call.operands]); have h2Q : aQ.eval (.tmp 42) = (.int .i64 j) := hgQ (.tmp 42) (by simp [Op.operands, Call.operands]); have hcQ : ∀ v, aQ.eval (.const v) = v := fun _ => rfl; generalize aQ.eval = rQ at h1Q h2Q hcQ; clear hgQ; simp [execOp, h1Q, h2Q, hcQ, resolve, invoke, builtin, go_sem, *] <;> rfl)) ?_
                refine allPure_cons (pure_loadAt _ blk (off + j * 2) x y rfl rfl (fun os d => ⟨((HBL.out os d).cell (p := ⟨blk, off + j * 2, none⟩) hb).trans C0.out, ((HBL.out os d).cell (p := ⟨blk, off + j * 2 + 1, none⟩) hb).trans C1.out⟩) rfl) ?_
                refine allPure_cons (pure_move _ (.inl rfl) rfl) ?_
                refine allPure_cons (pure_move _ (.inl rfl) rfl) ?_
                refine allPure_cons (by (refine pure_quiet fun aQ osQ dQ hgQ => ?_; have h1Q : aQ.eval (.tmp 46) = (.int .i64 j) := hgQ (.tmp 46) (by simp [Op.operands, Call.operands]); have hcQ : ∀ v, aQ.eval (.const v) = v := fun _ => rfl; generalize aQ.eval = rQ at h1Q hcQ; clear hgQ; simp [execOp, h1Q, hcQ, resolve, invoke, builtin, go_sem, *] <;> rfl)) ?_
                refine allPure_cons (by (refine pure_quiet fun aQ osQ dQ hgQ => ?_; have h1Q : aQ.eval (.tmp 45) = (.slice (some ⟨blk, off, none⟩) n c2) := hgQ (.tmp 45) (by simp [Op.operands, Call.operands]); have h2Q : aQ.eval (.tmp 47) = (.int .i64 k) := hgQ (.tmp 47) (by simp [Op.operands, Call.operands]); have hcQ : ∀ v, aQ.eval (.const v) = v := fun _ => rfl; generalize aQ.eval = rQ at h1Q h2Q hcQ; clear hgQ; simp [execOp, h1Q, h2Q, hcQ, resolve, invoke, builtin, go_sem, *] <;> rfl)) ?_
                refine allPure_cons (pure_loadAt _ blk (off + k * 2) x' y' rfl rfl (fun os d => ⟨((HBL.out os d).cell (p := ⟨blk, off + k * 2, none⟩) hb).trans D0.out, ((HBL.out os d).cell (p := ⟨blk, off + k * 2 + 1, none⟩) hb).trans D1.out⟩) rfl) ?_
                refine allPure_cons (pure_call _ _ _ _ ssq_enters rfl rfl (fun os' d' => cS.out _)) ?_
                refine allPure_cons (pure_move _ (.inl rfl) rfl) ?_
                refine allPure_cons (pure_move _ (.inl rfl) rfl) ?_
                refine allPure_cons (by (refine pure_quiet fun aQ osQ dQ hgQ => ?_; have h1Q : aQ.eval (.tmp 51) = (.int .i64 L) := hgQ (.tmp 51) (by simp [Op.operands, Call.operands]); have h2Q : aQ.eval (.tmp 52) = (.int .i64 L) := hgQ (.tmp 52) (by simp [Op.operands, Call.operands]); have hcQ : ∀ v, aQ.eval (.const v) = v := fun _ => rfl; generalize aQ.eval = rQ at h1Q h2Q hcQ; clear hgQ; simp [execOp, h1Q, h2Q, hcQ, resolve, invoke, builtin, go_sem, *] <;> rfl)) ?_
                exact True.intro
              · intro os' d'
                simp only [putAll, Act.put, List.setIfInBounds_toArray, List.set_cons_succ, List.set_cons_zero]
                refine last_gtrB (.tmp 50) (.tmp 53) 54 S (L * L) vb rfl rfl rfl HD.out rfl ?_
                simp only [Act.put, List.setIfInBounds_toArray, List.set_cons_succ, List.set_cons_zero]
                show Exit.then _ _ Exit.normal _ _
                cases vb
                · go_wp2
                  go_roundw
                  case rel => exact ⟨k, .inr (by have := KK.out; omega), by have := KK.out; first | (rw [this]; go_num) | go_num, by rw [HN.out, HS.out, KK.out]; rfl, below_plus HW3.out _ _⟩
                  case measure => have := KK.out; simp [intOf]; omega
                · go_wp2
                  go_ret
                  exact ⟨by rw [HF.out, HN.out, HS.out]; rfl, up_of_below (below_plus HW3.out _ _)⟩
            · have hlt' : ¬ (j : Int) + 1 < (n : Int) := by omega
              have wk : IntKind.i64.wrap ((j : Int) + 1) = (j : Int) + 1 := IntWalk.i64_in _ (by omega)
              have h0 : n - 1 - j = 0 := by omega
              go_wp2
              go_ret
              exact ⟨by rw [HF.out, HN.out, h0]; rfl, up_of_below HW.out⟩
    · have HF : Hid (fvF zs ps m n = -2) := by show fvF zs ps m n = -2; rw [fvF, fvB, decide_eq_false h4, Bool.false_and, Bool.and_false]; rfl
      have h4' : (400 : Int) < (n : Int) := by omega
      go_enter Try.func32, Try.ntmps32
      go_wp2_with (go_at_call 22; refine (hv _ HI.out).mono ?_; rintro e w1 ⟨rfl, os, d, rfl⟩)
      go_ret
      exact ⟨by rw [HF.out]; rfl, up_of_below (by repeat (first | with_reducible exact Below.refl _ _ | with_reducible apply below_alloc | with_reducible apply below_drw | with_reducible apply below_drew | with_reducible apply below_drewN | with_reducible apply below_plus | with_reducible apply below_set | (simp; done)))⟩

set_option maxHeartbeats 400000 in
theorem szP_any (a : Option Addr) (n c : Nat) (l : Int) (w : World) (hn : n ≤ 9223372036854775807) (hl0 : 0 ≤ l) (hl : l ≤ 1048576) :
    Calls Try.prog 34 #[.slice a n c, .int .i64 l] w fun e w' => e = .returned (.int .i64 (if n ≤ l then l - (n : Int) else -1)) ∧ w = w' := by
  by_cases h : (n : Int) ≤ l
  · rw [if_pos h]
    have h' : ¬ (l - (n : Int) < 0) := by omega
    go_enter Try.func34, Try.ntmps34
    go_wp2
    go_ret
    exact ⟨rfl, rfl⟩
  · rw [if_neg h]
    have h' : l - (n : Int) < 0 := by omega
    go_enter Try.func34, Try.ntmps34
    go_wp2
    go_ret
    exact ⟨rfl, rfl⟩

set_option maxHeartbeats 2000000 in
theorem exactFirstViolation_any (a : Option Addr) (n c : Nat) (b : Option Addr) (k f : Nat) (w : World) (ha : Given4 w a n c) (hb : Given2 w b k f) :
    Calls Try.prog 12 #[.slice a n c, .slice b k f] w fun e w' => e = .returned (.bool true) ∧ Up w w' := by
  obtain ⟨hnc, hcm, zs, hz, hi⟩ := ha
  obtain ⟨hkf, hfm, ps, hp, hj⟩ := hb
  unfold maxLen at hcm hfm
  have HZ := Lib.hid hz
  have HP := Lib.hid hp
  have HI := Lib.hid hi
  have HJ := Lib.hid hj
  have hS := szZ_any a n c 1048576 w (by omega) (by decide) (by decide)
  clear hi hz hj hp
  by_cases hn : n ≤ 1048576
  · rw [if_pos (show (n : Int) ≤ 1048576 by omega)] at hS
    have hneg : ¬ ((1048576 : Int) - n < 0) := by omega
    have hT := szP_any b k f (1048576 - n) w (by omega) (by omega) (by omega)
    by_cases hk : (k : Int) ≤ 1048576 - n
    · rw [if_pos hk] at hT
      have hneg2 : ¬ ((1048576 : Int) - n - k < 0) := by omega
      have hk1 : k ≤ 1048576 := by omega
      go_enter Try.func12, Try.ntmps12
      go_wp2_with (first | (go_at_call 23; refine hS.mono ?_; rintro e w' ⟨rfl, rfl⟩) | (go_at_call 34; refine hT.mono ?_; rintro e w' ⟨rfl, rfl⟩))
      refine (toZS_any _ _ _ zs _ HZ.out HI.out hn).mono ?_
      rintro e w1 ⟨a1, e1, rfl, hO, hB⟩
      have HT1 := Lib.hid hO.ints.2
      have HB1 := Lib.hid hB
      clear hO hB
      go_wp2_with fail
      refine (toS_any _ _ _ ps _ HP.out (HJ.out.below HB1.out) hk1).mono ?_
      rintro e w2 ⟨a2, e2, rfl, hO, hB⟩
      have HT2 := Lib.hid hO.ints.2
      replace HT1 := Lib.hid (HT1.out.below hB)
      have HB2 := Lib.hid (HB1.out.trans (hB.mono HB1.out.size))
      clear hO hB
      go_wp2_with fail
      refine (sFviol_any _ _ _ zs _ _ _ ps _ HZ.out HT1.out HP.out HT2.out (by omega) (by omega)).mono ?_
      rintro e w3 ⟨rfl, hU⟩
      have HB3 := Lib.hid (HB2.out.trans (hU.below.mono HB2.out.size))
      clear hU HT1 HT2
      go_wp2_with fail
      refine (toZS_any _ _ _ zs _ HZ.out (HI.out.below HB3.out) hn).mono ?_
      rintro e w4 ⟨a4, e4, rfl, hO, hB⟩
      have HO4 := Lib.hid hO.ints.2
      have HB4 := Lib.hid (HB3.out.trans (hB.mono HB3.out.size))
      clear hO hB
      go_wp2_with fail
      refine (toS_any _ _ _ ps _ HP.out (HJ.out.below HB4.out) hk1).mono ?_
      rintro e w5 ⟨a5, e5, rfl, hO, hB⟩
      have HO5 := Lib.hid hO.ints.2
      replace HO4 := Lib.hid (HO4.out.below hB)
      have HB5 := Lib.hid (HB4.out.trans (hB.mono HB4.out.size))
      clear hO hB
      go_wp2_with fail
      refine (fviol_any _ _ _ zs _ _ _ ps _ HZ.out HO4.out HP.out HO5.out (by omega) (by omega)).mono ?_
      rintro e w6 ⟨rfl, hU⟩
      replace HO4 := Lib.hid (HO4.out.below hU.below)
      replace HO5 := Lib.hid (HO5.out.below hU.below)
      have HB6 := Lib.hid (HB5.out.trans (hU.below.mono HB5.out.size))
      clear hU
      go_wp2_with fail
      refine (toZS_any _ _ _ zs _ HZ.out (HI.out.below HB6.out) hn).mono ?_
      rintro e w7 ⟨a7, e7, rfl, hO, hB⟩
      have HO7 := Lib.hid hO.ints.2
      replace HO4 := Lib.hid (HO4.out.below hB)
      replace HO5 := Lib.hid (HO5.out.below hB)
      have HB7 := Lib.hid (HB6.out.trans (hB.mono HB6.out.size))
      clear hO hB
      go_wp2_with fail
      refine (eqZS_any _ _ _ _ _ zs _ HO4.out HO7.out HZ.out (by omega)).mono ?_
      rintro e w8 ⟨rfl, hU⟩
      replace HO5 := Lib.hid (HO5.out.below hU.below)
      have HB8 := Lib.hid (HB7.out.trans (hU.below.mono HB7.out.size))
      clear hU HO4 HO7
      go_wp2_with fail
      refine (toS_any _ _ _ ps _ HP.out (HJ.out.below HB8.out) hk1).mono ?_
      rintro e w9 ⟨a9, e9, rfl, hO, hB⟩
      have HO9 := Lib.hid hO.ints.2
      replace HO5 := Lib.hid (HO5.out.below hB)
      have HB9 := Lib.hid (HB8.out.trans (hB.mono HB8.out.size))
      clear hO hB
      go_wp2_with fail
      refine (eqS_any _ _ _ _ _ ps _ HO5.out HO9.out HP.out (by omega)).mono ?_
      rintro e wx ⟨rfl, hU⟩
      have HBx := Lib.hid (HB9.out.trans (hU.below.mono HB9.out.size))
      clear hU
      go_wp2
      go_ret
      exact ⟨rfl, up_of_below HBx.out⟩
    · rw [if_neg hk] at hT
      go_enter Try.func12, Try.ntmps12
      go_wp2_with (first | (go_at_call 23; refine hS.mono ?_; rintro e w' ⟨rfl, rfl⟩) | (go_at_call 34; refine hT.mono ?_; rintro e w' ⟨rfl, rfl⟩))
      go_ret
      exact ⟨rfl, up_of_below (Below.refl _ _)⟩
  · rw [if_neg (show ¬ (n : Int) ≤ 1048576 by omega)] at hS
    go_enter Try.func12, Try.ntmps12
    go_wp2_with (first | (go_at_call 23; refine hS.mono ?_; rintro e w' ⟨rfl, rfl⟩))
    go_ret
    exact ⟨rfl, up_of_below (Below.refl _ _)⟩

end Go.Proofs.Ytfdpdhinigfpfaa
