/-
  The walk of the law on the first violation of a limit. No condition beyond those that each theorem states.
-/
import Derived.Test.YtfdpdhinigfpfaaFd
import Derived.Test.YtfdpdhinigfpfaaFvL
import Derived.Test.YtfdpdhinigfpfaaLastM
import Derived.Deep.RegionHeld3
namespace Go.Proofs.Ytfdpdhinigfpfaa
set_option linter.unusedSimpArgs false
open Go.RowKit

/-! ### plain -/
theorem fvN_spec {zs ps : List Int} {m : Nat} : ∀ (k j : Nat), (fvN zs ps m k j = -1 ∧ ∀ i, j ≤ i → i < j + k → violB zs ps m i = false) ∨ ∃ i : Nat, fvN zs ps m k j = i ∧ j ≤ i ∧ i < j + k ∧ violB zs ps m i = true ∧ ∀ i', j ≤ i' → i' < i → violB zs ps m i' = false
  | 0, j => .inl ⟨rfl, fun i h1 h2 => by omega⟩
  | k + 1, j => by
    cases h : violB zs ps m j
    · have e : fvN zs ps m (k + 1) j = fvN zs ps m k (j + 1) := by rw [fvN, h]; rfl
      rw [e]
      rcases fvN_spec (zs := zs) (ps := ps) (m := m) k (j + 1) with ⟨h1, h2⟩ | ⟨i, h1, h2, h3, h4, h5⟩
      · refine .inl ⟨h1, fun i g1 g2 => ?_⟩
        by_cases hi : i = j
        · subst hi; exact h
        · exact h2 i (by omega) (by omega)
      · refine .inr ⟨i, h1, by omega, by omega, h4, fun i' g1 g2 => ?_⟩
        by_cases hi : i' = j
        · subst hi; exact h
        · exact h5 i' (by omega) g2
    · exact .inr ⟨j, by rw [fvN, if_pos h], Nat.le_refl _, by omega, h, fun i' h1 h2 => by omega⟩
theorem sq_self (x y : Int) : sqF x y x y = 0 := by unfold sqF; rw [Int.sub_self, Int.sub_self]; rfl
/-- A point twice: no step is too long. -/
theorem fv_twice {zs : List Int} {m : Nat} {x y : Int} (hz : zonesB m zs = true) (hp : ptB x y = true) : fvF zs [x, y, x, y] m 2 = -1 := by
  have hB : fvB zs [x, y, x, y] m 2 = true := by
    unfold fvB
    rw [hz, Bool.true_and, Bool.and_eq_true]
    refine ⟨by decide, allB_t.2 fun j hj => ?_⟩
    match j, hj with
    | 0, _ => exact hp
    | 1, _ => exact hp
  unfold fvF
  rw [if_pos hB]
  have hl := limN_bd (u := x) (v := y) (zonesB_t.1 hz).2
  have hs := sq_bd' (x := limN zs x y m) (A := 200) (by omega) (by omega)
  have hv : violB zs [x, y, x, y] m 0 = false := by
    show decide (limN zs x y m * limN zs x y m < sqF x y x y) = false
    rw [sq_self]
    exact decide_eq_false (by omega)
  show fvN zs [x, y, x, y] m 1 0 = -1
  rw [fvN, hv]
  rfl

set_option maxHeartbeats 1000000 in
theorem sqd_any (x y u v : Int) (w : World) (h1 : -10000 ≤ x ∧ x ≤ 10000) (h2 : -10000 ≤ y ∧ y ≤ 10000) (h3 : -10000 ≤ u ∧ u ≤ 10000) (h4 : -10000 ≤ v ∧ v ≤ 10000) :
    Calls Try.prog 33 #[.agg #[.int .i64 x, .int .i64 y], .agg #[.int .i64 u, .int .i64 v]] w fun e w' => e = .returned (.int .i64 (sqF x y u v)) ∧ Up w w' := by
  have hB : allB (okQ [x, y, u, v]) 2 = true := allB_t.2 fun j hj => by
    match j, hj with
    | 0, _ => exact ptB_t.2 ⟨h1, h2⟩
    | 1, _ => exact ptB_t.2 ⟨h3, h4⟩
  have HA := Lib.hid (fun (g : Nat) W (hi : Ints W (some ⟨g, 0, none⟩) [x, y, u, v]) => (show Calls Try.prog 55 #[.slice (some ⟨g, 0, none⟩) 2 2] W fun e w' => e = .returned (.bool true) ∧ Up W w' by
    have h := allPoints_any (some ⟨g, 0, none⟩) 2 2 [x, y, u, v] W rfl hi (by omega)
    rwa [hB] at h))
  have HS := Lib.hid (fun W => square_any x y u v W h1 h2 h3 h4)
  clear hB h1 h2 h3 h4
  go_enter Try.func33, Try.ntmps33
  go_wp2_with fail
  refine (HA.out _ _ (.inr ⟨_, 0, rfl, fun i hi => ?_⟩)).mono ?_
  · match i, hi with
    | 0, _ => exact cell_new' (by simp) rfl
    | 1, _ => exact cell_new' (by simp) rfl
    | 2, _ => exact cell_new' (by simp) rfl
    | 3, _ => exact cell_new' (by simp) rfl
  rintro e w1 ⟨rfl, os, d, rfl⟩
  go_wp2_with fail
  refine (HS.out _).mono ?_
  rintro e w2 ⟨rfl, os2, d2, rfl⟩
  go_wp2
  go_ret
  exact ⟨rfl, up_of_below (by repeat (first | with_reducible exact Below.refl _ _ | with_reducible apply below_alloc | with_reducible apply below_drw | with_reducible apply below_drew | with_reducible apply below_drewN | with_reducible apply below_plus | with_reducible apply below_set | (simp; done)))⟩
/-- Worlds ahead of a new block, and behind it. -/
def RM (W0 W1 : World) : Bool → World → Prop
  | false, W => ∃ d, W = drw W0 d
  | true, W => ∃ os d, W = plus W1 os d
theorem pureM {W0 W1 : World} {A : Act} {o : Oper} (h : PureStep Try.prog W1 A o) : StepM (RM W0 W1 true) (RM W0 W1 true) A o := by
  intro a w K Q hread hR hK
  obtain ⟨os, d, rfl⟩ := hR
  exact h a os d K Q hread (fun os' d' => hK _ ⟨os', d', rfl⟩)
theorem make_two {W0 : World} {A : Act} {o : Oper} (p0 p1 : Operand) (x y u v : Int) (h : o.op = .buildSlice 50 2 #[(0, p0), (1, p1)]) (e0 : A.eval p0 = .agg #[.int .i64 x, .int .i64 y]) (e1 : A.eval p1 = .agg #[.int .i64 u, .int .i64 v]) (hv : gd A (o.dst.getD 0) = .slice (some ⟨W0.heap.size, 0, none⟩) 2 2) :
    StepM (RM W0 (W0.alloc (.cells #[.int .i64 x, .int .i64 y, .int .i64 u, .int .i64 v] 36)) false) (RM W0 (W0.alloc (.cells #[.int .i64 x, .int .i64 y, .int .i64 u, .int .i64 v] 36)) true) A o := by
  intro a w K Q hread hR hK
  obtain ⟨d, rfl⟩ := hR
  have g0 := (eval_eq hread (x := p0) (by simp [h, Op.operands])).trans e0
  have g1 := (eval_eq hread (x := p1) (by simp [h, Op.operands])).trans e1
  have hrun : (execOp a.eval o).run Try.prog (drw W0 d) = .ok (.value (gd A (o.dst.getD 0))) ((drw W0 d).alloc (.cells #[.int .i64 x, .int .i64 y, .int .i64 u, .int .i64 v] 36)) := by
    rw [hv]
    generalize a.eval = ρ at g0 g1
    simp [execOp, h, g0, g1, go_sem]
  unfold Oper.wp
  rw [hrun]
  exact hK _ ⟨#[], d, by unfold Proofs.Ytfdpdhinigfpfaa.plus drw World.alloc; simp only [Array.append_empty]⟩
theorem fv_enters (args : Array Value) (w : World) : (callFunc 31 args).run Try.prog w = .ok (.enter 31 args) w := (enters_of Try.func31 (by kernel_rfl) rfl) args w
theorem sqd_enters (args : Array Value) (w : World) : (callFunc 33 args).run Try.prog w = .ok (.enter 33 args) w := (enters_of Try.func33 (by kernel_rfl) rfl) args w


set_option maxRecDepth 100000 in
set_option maxHeartbeats 4000000 in
theorem lawFirstViolation_any (a : Option Addr) (n c : Nat) (w : World) (hb : Bytes w w.heap.size a n) (hnc : n ≤ c) (hcm : c ≤ maxLen) :
    Calls Try.prog 11 #[.slice a n c] w fun e w' => e = .returned (.bool true) ∧ Up w w' := by
  have hmm : c ≤ 9223372036854775807 := by unfold maxLen at hcm; omega
  by_cases hn : n ≤ 1048576
  · go_enter Try.func11, Try.ntmps11
    go_wp2_with (go_at_call 30; refine (drawFirstViolation_any _ _ _ _ hb hnc hcm).mono ?_; rintro e w1 ⟨m, zs, g, c1, q, ps, g2, c2, hq8, rfl, hD, hP⟩)
    have hz := hD.2.1.len
    obtain ⟨hmc, hc1⟩ := hD.short
    have hm7 := hD.1
    have HI := Lib.hid hD.2.1.ints.2
    have HJ := Lib.hid hP.ints.2
    have HW := Lib.hid hD.2.2
    have HZ := Lib.hid hz
    have HP := Lib.hid hP.len
    have hg2 := hP.lt g2 rfl
    clear hD hz hb hP
    have C1 := Lib.hid (fun W h h2 => fviol_any (some ⟨g, 0, none⟩) m c1 zs (some ⟨g2, 0, none⟩) q c2 ps W HZ.out h HP.out h2 (by omega) (by omega))
    have C2 := Lib.hid (fun W h h2 => sFviol_any (some ⟨g, 0, none⟩) m c1 zs (some ⟨g2, 0, none⟩) q c2 ps W HZ.out h HP.out h2 (by omega) (by omega))
    refine (C1.out _ HI.out HJ.out).mono ?_
    rintro e w2 ⟨rfl, hU⟩
    have HI2 := Lib.hid (HI.out.below hU.below)
    have HJ2 := Lib.hid (HJ.out.below hU.below)
    have HW2 := Lib.hid (HW.out.trans (hU.below.mono HW.out.size))
    have hs2 := hU.below.size
    clear hU HI HJ HW C1
    go_wp2_with fail
    refine (C2.out _ HI2.out HJ2.out).mono ?_
    rintro e w3 ⟨rfl, hU⟩
    have HI3 := Lib.hid (HI2.out.below hU.below)
    have HJ3 := Lib.hid (HJ2.out.below hU.below)
    have HW3 := Lib.hid (HW2.out.trans (hU.below.mono HW2.out.size))
    have hs3 := hU.below.size
    clear hU HI2 HJ2 HW2 C2
    cases hB : fvB zs ps m q
    · have hv : fvF zs ps m q = -2 := by unfold fvF; rw [hB]; rfl
      rw [hv]
      clear hB hv
      go_wp2_with ((go_at_call 18; refine (alive_any _).mono ?_; rintro e w' ⟨rfl, rfl⟩))
      go_ret
      exact ⟨rfl, up_of_below HW3.out⟩
    · have hv : fvF zs ps m q = fvN zs ps m (q - 1) 0 := by unfold fvF; rw [if_pos hB]
      have HN := Lib.hid (fvN_spec (zs := zs) (ps := ps) (m := m) (q - 1) 0)
      rw [hv]
      have HB := Lib.hid hB
      have hN1 : -1 ≤ fvN zs ps m (q - 1) 0 ∧ (0 ≤ fvN zs ps m (q - 1) 0 → fvN zs ps m (q - 1) 0 + 1 < q) := by
        rcases HN.out with ⟨h1, _⟩ | ⟨i, h1, _, h2, _⟩ <;> omega
      clear hB hv
      generalize fvN zs ps m (q - 1) 0 = N at HN hN1 ⊢
      obtain ⟨hN1, hN2⟩ := hN1
      have hN3 : (N == -2) = false := by simp; omega
      go_wp2
      go_loopw [6] (fun kv wr => ∃ j : Nat, (j = 0 ∨ j < q) ∧ kv = .int .i64 j ∧ Hid (Below w3.heap.size w3 wr)) (fun kv _ => q - (intOf kv).toNat)
      case atStart => exact ⟨0, .inl rfl, rfl, Below.refl _ _⟩
      case round =>
        obtain ⟨j, hj, rfl, HR⟩ := hrel
        by_cases hlt : j + 1 < q
        · have hlt' : (j : Int) + 1 < (q : Int) := by omega
          have hjq : (j : Int) < (q : Int) := by omega
          obtain ⟨x, y, x', y', L, S, vb, ex, ey, ex', ey', eL, eS, ev, hlB, hx, hy, hx', hy', hLL, hdec⟩ := viol_step HB.out hlt
          have hIr := HI3.out.below HR.out
          obtain ⟨blk, off, he, hb, c0, e1⟩ := (HJ3.out.below HR.out).pt HP.out (show j < q by omega)
          simp only [Option.some.injEq, Addr.mk.injEq, and_true] at he
          obtain ⟨rfl, rfl⟩ := he
          obtain ⟨blk', off', he, hb', d0, d1⟩ := (HJ3.out.below HR.out).pt HP.out hlt
          simp only [Option.some.injEq, Addr.mk.injEq, and_true] at he
          obtain ⟨rfl, rfl⟩ := he
          rw [ex, Nat.zero_add] at c0
          rw [ey, Nat.zero_add] at e1
          rw [ex', Nat.zero_add] at d0
          rw [ey', Nat.zero_add] at d1
          have hlim : limF m zs x y = L := by rw [limF, if_pos hlB, eL]
          have cL := Lib.hid (fun W h => limit_any (some ⟨g, 0, none⟩) m c1 zs x y W HZ.out h (by omega))
          rw [hlim] at cL
          have cS := Lib.hid (fun W => sqd_any x y x' y' W hx hy hx' hy')
          rw [eS] at cS
          have HIr := Lib.hid hIr
          have wL : IntKind.i64.wrap (L * L) = L * L := IntWalk.i64_in _ (by omega)
          have HE : Hid ((vb = true → ¬ N < 0 ∧ ¬ (j : Int) < N) ∧ (vb = false → ¬ (j : Int) = N)) := by
            rcases HN.out with ⟨h1, h2⟩ | ⟨i, h1, _, h3, h4, h5⟩
            · have := h2 j (by omega) (by omega)
              rw [ev] at this
              subst this
              show _ ∧ _
              exact ⟨(fun h => by cases h), fun _ => by omega⟩
            · show _ ∧ _
              refine ⟨fun h => ⟨by omega, fun hji => ?_⟩, fun h e => ?_⟩
              · have := h5 j (by omega) (by omega)
                rw [ev, h] at this
                cases this
              · obtain rfl : j = i := by omega
                rw [ev, h] at h4
                cases h4
          obtain ⟨k, hk⟩ : ∃ k, k = j + 1 := ⟨_, rfl⟩
          have wk : IntKind.i64.wrap ((j : Int) + 1) = (k : Int) := by rw [show (j : Int) + 1 = (k : Int) by omega]; exact IntWalk.i64_in _ (by omega)
          have hkn : (k : Int) < (q : Int) := by omega
          rw [← hk] at d0 d1
          have KK := Lib.hid hk
          have C0 := Lib.hid c0
          have C1 := Lib.hid e1
          have D0 := Lib.hid d0
          have D1 := Lib.hid d1
          have HD := Lib.hid hdec
          clear ex ey ex' ey' eL eS ev hlB hx hy hx' hy' hLL hdec hlim hIr hk d0 d1 hlt'
          go_wp2_with fail
          refine (cL.out _ HIr.out).mono ?_
          rintro e w4 ⟨rfl, hU⟩
          have HU := Lib.hid hU.below
          have HR4 := Lib.hid (HR.out.trans (hU.below.mono HR.out.size))
          clear hU c0 e1
          go_wp2
          refine wp_region_any (by kernel_rfl) ?_
          refine region_last [(41, .slice (some ⟨g2, 0, none⟩) q c2), (42, .int .i64 j), (43, .pointer (some ⟨g2, j * 2, none⟩)), (44, .agg #[.int .i64 x, .int .i64 y]), (45, .slice (some ⟨g2, 0, none⟩) q c2), (46, .int .i64 j), (47, .int .i64 k), (48, .pointer (some ⟨g2, k * 2, none⟩)), (49, .agg #[.int .i64 x', .int .i64 y']), (50, .int .i64 S), (51, .int .i64 L), (52, .int .i64 L), (53, .int .i64 (L * L)), (54, .bool vb)] _ _ (by kernel_rfl) (by kernel_rfl) ?_ _ rfl ?_
          · simp only [putAll, Act.put, List.setIfInBounds_toArray, List.set_cons_succ, List.set_cons_zero]
            have hbl : ∀ os d, Below wr.heap.size wr (plus w4 os d) := fun os d => HU.out.trans ((below_plus (Below.refl w4.heap.size w4) os d).mono HU.out.size)
            have HBL := Lib.hid hbl
            have hdec := HD.out
            clear hbl
            refine allPure_cons (pure_move _ (.inl rfl) rfl) ?_
            refine allPure_cons (pure_move _ (.inl rfl) rfl) ?_
            refine allPure_cons (by (refine pure_quiet fun aQ osQ dQ hgQ => ?_; have h1Q : aQ.eval (.tmp 41) = (.slice (some ⟨g2, 0, none⟩) q c2) := hgQ (.tmp 41) (by simp [Op.operands, Call.operands]); have h2Q : aQ.eval (.tmp 42) = (.int .i64 j) := hgQ (.tmp 42) (by simp [Op.operands, Call.operands]); have hcQ : ∀ v, aQ.eval (.const v) = v := fun _ => rfl; generalize aQ.eval = rQ at h1Q h2Q hcQ; clear hgQ; simp [execOp, h1Q, h2Q, hcQ, resolve, invoke, builtin, go_sem, *] <;> rfl)) ?_
            refine allPure_cons (pure_loadAt _ g2 (j * 2) x y rfl rfl (fun os d => ⟨((HBL.out os d).cell (p := ⟨g2, j * 2, none⟩) hb).trans C0.out, ((HBL.out os d).cell (p := ⟨g2, j * 2 + 1, none⟩) hb).trans C1.out⟩) rfl) ?_
            refine allPure_cons (pure_move _ (.inl rfl) rfl) ?_
            refine allPure_cons (pure_move _ (.inl rfl) rfl) ?_
            refine allPure_cons (by (refine pure_quiet fun aQ osQ dQ hgQ => ?_; have h1Q : aQ.eval (.tmp 46) = (.int .i64 j) := hgQ (.tmp 46) (by simp [Op.operands, Call.operands]); have hcQ : ∀ v, aQ.eval (.const v) = v := fun _ => rfl; generalize aQ.eval = rQ at h1Q hcQ; clear hgQ; simp [execOp, h1Q, hcQ, resolve, invoke, builtin, go_sem, *] <;> rfl)) ?_
            refine allPure_cons (by (refine pure_quiet fun aQ osQ dQ hgQ => ?_; have h1Q : aQ.eval (.tmp 45) = (.slice (some ⟨g2, 0, none⟩) q c2) := hgQ (.tmp 45) (by simp [Op.operands, Call.operands]); have h2Q : aQ.eval (.tmp 47) = (.int .i64 k) := hgQ (.tmp 47) (by simp [Op.operands, Call.operands]); have hcQ : ∀ v, aQ.eval (.const v) = v := fun _ => rfl; generalize aQ.eval = rQ at h1Q h2Q hcQ; clear hgQ; simp [execOp, h1Q, h2Q, hcQ, resolve, invoke, builtin, go_sem, *] <;> rfl)) ?_
            refine allPure_cons (pure_loadAt _ g2 (k * 2) x' y' rfl rfl (fun os d => ⟨((HBL.out os d).cell (p := ⟨g2, k * 2, none⟩) hb).trans D0.out, ((HBL.out os d).cell (p := ⟨g2, k * 2 + 1, none⟩) hb).trans D1.out⟩) rfl) ?_
            refine allPure_cons (pure_call _ _ _ _ sqd_enters rfl rfl (fun os' d' => cS.out _)) ?_
            refine allPure_cons (pure_move _ (.inl rfl) rfl) ?_
            refine allPure_cons (pure_move _ (.inl rfl) rfl) ?_
            refine allPure_cons (by (refine pure_quiet fun aQ osQ dQ hgQ => ?_; have h1Q : aQ.eval (.tmp 51) = (.int .i64 L) := hgQ (.tmp 51) (by simp [Op.operands, Call.operands]); have h2Q : aQ.eval (.tmp 52) = (.int .i64 L) := hgQ (.tmp 52) (by simp [Op.operands, Call.operands]); have hcQ : ∀ v, aQ.eval (.const v) = v := fun _ => rfl; generalize aQ.eval = rQ at h1Q h2Q hcQ; clear hgQ; simp [execOp, h1Q, h2Q, hcQ, resolve, invoke, builtin, go_sem, *] <;> rfl)) ?_
            refine allPure_cons (by (refine pure_quiet fun aQ osQ dQ hgQ => ?_; have h1Q : aQ.eval (.tmp 50) = (.int .i64 S) := hgQ (.tmp 50) (by simp [Op.operands, Call.operands]); have h2Q : aQ.eval (.tmp 53) = (.int .i64 (L * L)) := hgQ (.tmp 53) (by simp [Op.operands, Call.operands]); have hcQ : ∀ v, aQ.eval (.const v) = v := fun _ => rfl; generalize aQ.eval = rQ at h1Q h2Q hcQ; clear hgQ; simp [execOp, h1Q, h2Q, hcQ, resolve, invoke, builtin, go_sem, *] <;> rfl)) ?_
            exact True.intro
          · intro os' d'
            simp only [putAll, Act.put, List.setIfInBounds_toArray, List.set_cons_succ, List.set_cons_zero]
            refine last_assign (.tmp 54) 8 (.bool vb) rfl rfl rfl ?_
            simp only [Act.put, List.setIfInBounds_toArray, List.set_cons_succ, List.set_cons_zero]
            show Exit.then _ _ Exit.normal _ (plus w4 os' d')
            cases vb
            · have hE := HE.out.2 rfl
              have hE' : ((j : Int) == N) = false := by simp; exact hE
              clear hE
              go_wp2
              go_roundw
              case rel => exact ⟨k, .inr (by omega), by go_num, below_plus HR4.out _ _⟩
              case measure => have := KK.out; simp [intOf]; omega
            · obtain ⟨hE1, hE2⟩ := HE.out.1 rfl
              go_wp2
              go_roundw
              case rel => exact ⟨k, .inr (by omega), by go_num, below_plus HR4.out _ _⟩
              case measure => have := KK.out; simp [intOf]; omega
        · have hlt' : ¬ ((j : Int) + 1 < (q : Int)) := by omega
          by_cases hq0 : q = 0
          · subst hq0
            have hN : N = -1 := by omega
            subst hN
            go_wp2
            go_region
            go_wp2
            go_ret
            exact ⟨rfl, up_of_below (below_drewN (HW3.out.trans (HR.out.mono HW3.out.size)) _)⟩
          · have hqp : 0 < q := by omega
            have hqz : ((q : Int) == 0) = false := by simp; omega
            obtain ⟨blk, off, he, hb, c0, e1⟩ := (HJ3.out.below HR.out).pt HP.out hqp
            simp only [Option.some.injEq, Addr.mk.injEq, and_true] at he
            obtain ⟨rfl, rfl⟩ := he
            simp only [Nat.zero_mul, Nat.zero_add] at c0 e1
            have hBB := HB.out
            unfold fvB at hBB
            rw [Bool.and_eq_true, Bool.and_eq_true] at hBB
            have hpt : ptB (qX ps 0) (qY ps 0) = true := allB_t.1 hBB.2.2 0 hqp
            have CF := Lib.hid (fun W (p : Nat) (hi : Ints W (some ⟨g, 0, none⟩) zs) (hi2 : Ints W (some ⟨p, 0, none⟩) [qX ps 0, qY ps 0, qX ps 0, qY ps 0]) => (show Calls Try.prog 31 #[.slice (some ⟨g, 0, none⟩) m c1, .slice (some ⟨p, 0, none⟩) 2 2] W fun e w' => e = .returned (.int .i64 (-1)) ∧ Up W w' by
              have h := fviol_any (some ⟨g, 0, none⟩) m c1 zs (some ⟨p, 0, none⟩) 2 2 [qX ps 0, qY ps 0, qX ps 0, qY ps 0] W HZ.out hi rfl hi2 (by omega) (by omega)
              rwa [fv_twice hBB.1 hpt] at h))
            have HIr := Lib.hid (HI3.out.below HR.out)
            have HRW := Lib.hid (HW3.out.trans (HR.out.mono HW3.out.size))
            clear hBB hpt HB HN HJ3 HI3 HP
            generalize qX ps 0 = x at c0 CF
            generalize qY ps 0 = y at e1 CF
            have hbl := Nat.le_of_lt hb
            have HRC : Hid (∀ b W, RM wr (wr.alloc (.cells #[.int .i64 x, .int .i64 y, .int .i64 x, .int .i64 y] 36)) b W → W.cell? ⟨g2, 0, none⟩ = some (.int .i64 x) ∧ W.cell? ⟨g2, 1, none⟩ = some (.int .i64 y)) := by
              intro b W hR
              cases b
              · obtain ⟨d, rfl⟩ := hR
                exact ⟨c0, e1⟩
              · obtain ⟨os, d, rfl⟩ := hR
                have hB := below_plus ((Below.refl wr.heap.size wr).alloc (Nat.le_refl _) (.cells #[.int .i64 x, .int .i64 y, .int .i64 x, .int .i64 y] 36)) os d
                exact ⟨(hB.cell (p := ⟨g2, 0, none⟩) hb).trans c0, (hB.cell (p := ⟨g2, 1, none⟩) hb).trans e1⟩
            have HIA : Hid (∀ os d, Ints (plus (wr.alloc (.cells #[.int .i64 x, .int .i64 y, .int .i64 x, .int .i64 y] 36)) os d) (some ⟨g, 0, none⟩) zs) := fun os d => HIr.out.below (below_plus ((Below.refl _ _).alloc (Nat.le_refl _) _) os d)
            have HIB : Hid (∀ os d, Ints (plus (wr.alloc (.cells #[.int .i64 x, .int .i64 y, .int .i64 x, .int .i64 y] 36)) os d) (some ⟨wr.heap.size, 0, none⟩) [x, y, x, y]) := fun os d => by
              refine Ints.plus (.inr ⟨_, 0, rfl, fun i hi => ?_⟩) os d
              match i, hi with
              | 0, _ => exact cell_new' rfl rfl
              | 1, _ => exact cell_new' rfl rfl
              | 2, _ => exact cell_new' rfl rfl
              | 3, _ => exact cell_new' rfl rfl
            clear c0 e1
            by_cases hNeg : N < 0
            · obtain rfl : N = -1 := by omega
              go_wp2
              refine wp_region_any (by kernel_rfl) ?_
              refine region_lastM (RM wr (wr.alloc (.cells #[.int .i64 x, .int .i64 y, .int .i64 x, .int .i64 y] 36))) 25 [(74, .int .i64 (-1)), (75, .bool true), (76, .bool true), (77, .int .i64 (-1)), (78, .bool true), (79, .bool true), (85, .bool true), (86, .bool true), (87, .bool true), (88, .slice (some ⟨g2, 0, none⟩) q c2), (89, .int .i64 q), (90, .bool false), (91, .bool false), (92, .slice (some ⟨g, 0, none⟩) m c1), (93, .slice (some ⟨g2, 0, none⟩) q c2), (94, .pointer (some ⟨g2, 0, none⟩)), (95, .agg #[.int .i64 x, .int .i64 y]), (96, .slice (some ⟨g2, 0, none⟩) q c2), (97, .pointer (some ⟨g2, 0, none⟩)), (98, .agg #[.int .i64 x, .int .i64 y]), (99, .slice (some ⟨wr.heap.size, 0, none⟩) 2 2), (100, .int .i64 (-1)), (101, .bool true), (102, .bool true), (103, .bool true)] [(76, true), (79, true), (87, true), (91, false)] _ _ (⟨_, drw_id.symm⟩) (by decide) (by kernel_rfl) (by kernel_rfl) ?_ ?_ _ rfl ?_
              · simp only [putAll, Act.put, List.setIfInBounds_toArray, List.set_cons_succ, List.set_cons_zero]
                intro gQ hgQ
                simp only [List.mem_cons, List.not_mem_nil, or_false] at hgQ
                rcases hgQ with rfl | rfl | rfl | rfl
                all_goals rfl
              · simp only [putAll, Act.put, List.setIfInBounds_toArray, List.set_cons_succ, List.set_cons_zero]
                refine allM_cons (by kernel_rfl) (by decide) (fun bQ => moveM _ (.inl rfl) rfl) ?_
                refine allM_cons (by kernel_rfl) (by decide) (fun bQ => by refine quietM fun aQ wQ hRQ hgQ => ?_; have h1Q : aQ.eval (.tmp 74) = .int .i64 (-1) := hgQ (.tmp 74) (by simp [Op.operands, Call.operands]); have hcQ : ∀ v, aQ.eval (.const v) = v := fun _ => rfl; generalize aQ.eval = rQ at h1Q hcQ; clear hgQ hRQ; simp [execOp, h1Q, hcQ, resolve, invoke, builtin, go_sem, *] <;> rfl) ?_
                refine allM_cons (by kernel_rfl) (by decide) (fun bQ => moveM _ (.inl rfl) rfl) ?_
                refine allM_cons (by kernel_rfl) (by decide) (fun bQ => moveM _ (.inl rfl) rfl) ?_
                refine allM_cons (by kernel_rfl) (by decide) (fun bQ => by refine quietM fun aQ wQ hRQ hgQ => ?_; have h1Q : aQ.eval (.tmp 77) = .int .i64 (-1) := hgQ (.tmp 77) (by simp [Op.operands, Call.operands]); have hcQ : ∀ v, aQ.eval (.const v) = v := fun _ => rfl; generalize aQ.eval = rQ at h1Q hcQ; clear hgQ hRQ; simp [execOp, h1Q, hcQ, resolve, invoke, builtin, go_sem, *] <;> rfl) ?_
                refine allM_cons (by kernel_rfl) (by decide) (fun bQ => moveM _ (.inl rfl) rfl) ?_
                refine allM_skip (by kernel_rfl) (by decide) rfl ?_
                refine allM_skip (by kernel_rfl) (by decide) rfl ?_
                refine allM_skip (by kernel_rfl) (by decide) rfl ?_
                refine allM_skip (by kernel_rfl) (by decide) rfl ?_
                refine allM_skip (by kernel_rfl) (by decide) rfl ?_
                refine allM_cons (by kernel_rfl) (by decide) (fun bQ => by refine quietM fun aQ wQ hRQ hgQ => ?_; have h1Q : aQ.eval (.tmp 79) = .bool true := hgQ (.tmp 79) (by simp [Op.operands, Call.operands]); have hcQ : ∀ v, aQ.eval (.const v) = v := fun _ => rfl; generalize aQ.eval = rQ at h1Q hcQ; clear hgQ hRQ; simp [execOp, h1Q, hcQ, resolve, invoke, builtin, go_sem, *] <;> rfl) ?_
                refine allM_cons (by kernel_rfl) (by decide) (fun bQ => by refine quietM fun aQ wQ hRQ hgQ => ?_; have h1Q : aQ.eval (.tmp 76) = .bool true := hgQ (.tmp 76) (by simp [Op.operands, Call.operands]); have h2Q : aQ.eval (.tmp 85) = .bool true := hgQ (.tmp 85) (by simp [Op.operands, Call.operands]); have hcQ : ∀ v, aQ.eval (.const v) = v := fun _ => rfl; generalize aQ.eval = rQ at h1Q h2Q hcQ; clear hgQ hRQ; simp [execOp, h1Q, h2Q, hcQ, resolve, invoke, builtin, go_sem, *] <;> rfl) ?_
                refine allM_cons (by kernel_rfl) (by decide) (fun bQ => moveM _ (.inl rfl) rfl) ?_
                refine allM_cons (by kernel_rfl) (by decide) (fun bQ => moveM _ (.inl rfl) rfl) ?_
                refine allM_cons (by kernel_rfl) (by decide) (fun bQ => by refine quietM fun aQ wQ hRQ hgQ => ?_; have h1Q : aQ.eval (.tmp 88) = .slice (some ⟨g2, 0, none⟩) q c2 := hgQ (.tmp 88) (by simp [Op.operands, Call.operands]); have hcQ : ∀ v, aQ.eval (.const v) = v := fun _ => rfl; generalize aQ.eval = rQ at h1Q hcQ; clear hgQ hRQ; simp [execOp, h1Q, hcQ, resolve, invoke, builtin, go_sem, *] <;> rfl) ?_
                refine allM_cons (by kernel_rfl) (by decide) (fun bQ => by refine quietM fun aQ wQ hRQ hgQ => ?_; have h1Q : aQ.eval (.tmp 89) = .int .i64 q := hgQ (.tmp 89) (by simp [Op.operands, Call.operands]); have hcQ : ∀ v, aQ.eval (.const v) = v := fun _ => rfl; generalize aQ.eval = rQ at h1Q hcQ; clear hgQ hRQ; simp [execOp, h1Q, hcQ, resolve, invoke, builtin, go_sem, *] <;> rfl) ?_
                refine allM_cons (by kernel_rfl) (by decide) (fun bQ => moveM _ (.inl rfl) rfl) ?_
                refine allM_cons (by kernel_rfl) (by decide) (fun bQ => moveM _ (.inl rfl) rfl) ?_
                refine allM_cons (by kernel_rfl) (by decide) (fun bQ => moveM _ (.inl rfl) rfl) ?_
                refine allM_cons (by kernel_rfl) (by decide) (fun bQ => by refine quietM fun aQ wQ hRQ hgQ => ?_; have h1Q : aQ.eval (.tmp 93) = .slice (some ⟨g2, 0, none⟩) q c2 := hgQ (.tmp 93) (by simp [Op.operands, Call.operands]); have hcQ : ∀ v, aQ.eval (.const v) = v := fun _ => rfl; generalize aQ.eval = rQ at h1Q hcQ; clear hgQ hRQ; simp [execOp, h1Q, hcQ, resolve, invoke, builtin, go_sem, *] <;> rfl) ?_
                refine allM_cons (by kernel_rfl) (by decide) (fun bQ => by refine quietM fun aQ wQ hRQ hgQ => ?_; have h1Q : aQ.eval (.tmp 94) = .pointer (some ⟨g2, 0, none⟩) := hgQ (.tmp 94) (by simp [Op.operands]); obtain ⟨k0Q, k1Q⟩ := HRC.out bQ wQ hRQ; generalize aQ.eval = rQ at h1Q; clear hgQ hRQ; simp [execOp, h1Q, Instr.loadAt, go_sem, k0Q, k1Q] <;> rfl) ?_
                refine allM_cons (by kernel_rfl) (by decide) (fun bQ => moveM _ (.inl rfl) rfl) ?_
                refine allM_cons (by kernel_rfl) (by decide) (fun bQ => by refine quietM fun aQ wQ hRQ hgQ => ?_; have h1Q : aQ.eval (.tmp 96) = .slice (some ⟨g2, 0, none⟩) q c2 := hgQ (.tmp 96) (by simp [Op.operands, Call.operands]); have hcQ : ∀ v, aQ.eval (.const v) = v := fun _ => rfl; generalize aQ.eval = rQ at h1Q hcQ; clear hgQ hRQ; simp [execOp, h1Q, hcQ, resolve, invoke, builtin, go_sem, *] <;> rfl) ?_
                refine allM_cons (by kernel_rfl) (by decide) (fun bQ => by refine quietM fun aQ wQ hRQ hgQ => ?_; have h1Q : aQ.eval (.tmp 97) = .pointer (some ⟨g2, 0, none⟩) := hgQ (.tmp 97) (by simp [Op.operands]); obtain ⟨k0Q, k1Q⟩ := HRC.out bQ wQ hRQ; generalize aQ.eval = rQ at h1Q; clear hgQ hRQ; simp [execOp, h1Q, Instr.loadAt, go_sem, k0Q, k1Q] <;> rfl) ?_
                refine allM_make (by kernel_rfl) rfl (make_two (.tmp 95) (.tmp 98) x y x y rfl rfl rfl rfl) ?_
                refine allM_need (by kernel_rfl) (by decide) (by kernel_rfl) (pureM (pure_call _ _ _ _ fv_enters rfl rfl (fun osQ dQ => CF.out _ _ (HIA.out osQ dQ) (HIB.out osQ dQ)))) ?_
                refine allM_cons (by kernel_rfl) (by decide) (fun bQ => by refine quietM fun aQ wQ hRQ hgQ => ?_; have h1Q : aQ.eval (.tmp 100) = .int .i64 (-1) := hgQ (.tmp 100) (by simp [Op.operands, Call.operands]); have hcQ : ∀ v, aQ.eval (.const v) = v := fun _ => rfl; generalize aQ.eval = rQ at h1Q hcQ; clear hgQ hRQ; simp [execOp, h1Q, hcQ, resolve, invoke, builtin, go_sem, *] <;> rfl) ?_
                refine allM_cons (by kernel_rfl) (by decide) (fun bQ => by refine quietM fun aQ wQ hRQ hgQ => ?_; have h1Q : aQ.eval (.tmp 91) = .bool false := hgQ (.tmp 91) (by simp [Op.operands, Call.operands]); have h2Q : aQ.eval (.tmp 101) = .bool true := hgQ (.tmp 101) (by simp [Op.operands, Call.operands]); have hcQ : ∀ v, aQ.eval (.const v) = v := fun _ => rfl; generalize aQ.eval = rQ at h1Q h2Q hcQ; clear hgQ hRQ; simp [execOp, h1Q, h2Q, hcQ, resolve, invoke, builtin, go_sem, *] <;> rfl) ?_
                refine allM_cons (by kernel_rfl) (by decide) (fun bQ => by refine quietM fun aQ wQ hRQ hgQ => ?_; have h1Q : aQ.eval (.tmp 87) = .bool true := hgQ (.tmp 87) (by simp [Op.operands, Call.operands]); have h2Q : aQ.eval (.tmp 102) = .bool true := hgQ (.tmp 102) (by simp [Op.operands, Call.operands]); have hcQ : ∀ v, aQ.eval (.const v) = v := fun _ => rfl; generalize aQ.eval = rQ at h1Q h2Q hcQ; clear hgQ hRQ; simp [execOp, h1Q, h2Q, hcQ, resolve, invoke, builtin, go_sem, *] <;> rfl) ?_
                exact True.intro
              · intro W9 hW9
                simp only [putAll, Act.put, List.setIfInBounds_toArray, List.set_cons_succ, List.set_cons_zero]
                obtain ⟨os9, d9, rfl⟩ := hW9
                refine last_assign (.tmp 103) 2 (.bool true) rfl rfl rfl ?_
                simp only [Act.put, List.setIfInBounds_toArray, List.set_cons_succ, List.set_cons_zero]
                show Exit.then _ _ Exit.normal _ _
                go_wp2
                go_ret
                exact ⟨rfl, up_of_below (below_plus (HRW.out.alloc HRW.out.size _) _ _)⟩
            · have hN2' := hN2 (by omega)
              have d1 : decide (-1 ≤ N) = true := decide_eq_true hN1
              have d2 : decide (N < 0) = false := decide_eq_false hNeg
              have wN : IntKind.i64.wrap (N + 1) = N + 1 := IntWalk.i64_in _ (by omega)
              have d3 : decide (N + 1 < (q : Int)) = true := decide_eq_true hN2'
              go_wp2
              refine wp_region_any (by kernel_rfl) ?_
              refine region_lastM (RM wr (wr.alloc (.cells #[.int .i64 x, .int .i64 y, .int .i64 x, .int .i64 y] 36))) 25 [(74, .int .i64 N), (75, .bool true), (76, .bool true), (77, .int .i64 N), (78, .bool false), (79, .bool false), (80, .int .i64 N), (81, .int .i64 (N + 1)), (82, .slice (some ⟨g2, 0, none⟩) q c2), (83, .int .i64 q), (84, .bool true), (85, .bool true), (86, .bool true), (87, .bool true), (88, .slice (some ⟨g2, 0, none⟩) q c2), (89, .int .i64 q), (90, .bool false), (91, .bool false), (92, .slice (some ⟨g, 0, none⟩) m c1), (93, .slice (some ⟨g2, 0, none⟩) q c2), (94, .pointer (some ⟨g2, 0, none⟩)), (95, .agg #[.int .i64 x, .int .i64 y]), (96, .slice (some ⟨g2, 0, none⟩) q c2), (97, .pointer (some ⟨g2, 0, none⟩)), (98, .agg #[.int .i64 x, .int .i64 y]), (99, .slice (some ⟨wr.heap.size, 0, none⟩) 2 2), (100, .int .i64 (-1)), (101, .bool true), (102, .bool true), (103, .bool true)] [(76, true), (79, false), (87, true), (91, false)] _ _ (⟨_, drw_id.symm⟩) (by decide) (by kernel_rfl) (by kernel_rfl) ?_ ?_ _ rfl ?_
              · simp only [putAll, Act.put, List.setIfInBounds_toArray, List.set_cons_succ, List.set_cons_zero]
                intro gQ hgQ
                simp only [List.mem_cons, List.not_mem_nil, or_false] at hgQ
                rcases hgQ with rfl | rfl | rfl | rfl
                all_goals rfl
              · simp only [putAll, Act.put, List.setIfInBounds_toArray, List.set_cons_succ, List.set_cons_zero]
                refine allM_cons (by kernel_rfl) (by decide) (fun bQ => moveM _ (.inl rfl) rfl) ?_
                refine allM_cons (by kernel_rfl) (by decide) (fun bQ => by refine quietM fun aQ wQ hRQ hgQ => ?_; have h1Q : aQ.eval (.tmp 74) = .int .i64 N := hgQ (.tmp 74) (by simp [Op.operands, Call.operands]); have hcQ : ∀ v, aQ.eval (.const v) = v := fun _ => rfl; generalize aQ.eval = rQ at h1Q hcQ; clear hgQ hRQ; simp [execOp, h1Q, hcQ, resolve, invoke, builtin, go_sem, *] <;> rfl) ?_
                refine allM_cons (by kernel_rfl) (by decide) (fun bQ => moveM _ (.inl rfl) rfl) ?_
                refine allM_cons (by kernel_rfl) (by decide) (fun bQ => moveM _ (.inl rfl) rfl) ?_
                refine allM_cons (by kernel_rfl) (by decide) (fun bQ => by refine quietM fun aQ wQ hRQ hgQ => ?_; have h1Q : aQ.eval (.tmp 77) = .int .i64 N := hgQ (.tmp 77) (by simp [Op.operands, Call.operands]); have hcQ : ∀ v, aQ.eval (.const v) = v := fun _ => rfl; generalize aQ.eval = rQ at h1Q hcQ; clear hgQ hRQ; simp [execOp, h1Q, hcQ, resolve, invoke, builtin, go_sem, *] <;> rfl) ?_
                refine allM_cons (by kernel_rfl) (by decide) (fun bQ => moveM _ (.inl rfl) rfl) ?_
                refine allM_cons (by kernel_rfl) (by decide) (fun bQ => moveM _ (.inl rfl) rfl) ?_
                refine allM_cons (by kernel_rfl) (by decide) (fun bQ => by refine quietM fun aQ wQ hRQ hgQ => ?_; have h1Q : aQ.eval (.tmp 80) = .int .i64 N := hgQ (.tmp 80) (by simp [Op.operands, Call.operands]); have hcQ : ∀ v, aQ.eval (.const v) = v := fun _ => rfl; generalize aQ.eval = rQ at h1Q hcQ; clear hgQ hRQ; simp [execOp, h1Q, hcQ, resolve, invoke, builtin, go_sem, *] <;> rfl) ?_
                refine allM_cons (by kernel_rfl) (by decide) (fun bQ => moveM _ (.inl rfl) rfl) ?_
                refine allM_cons (by kernel_rfl) (by decide) (fun bQ => by refine quietM fun aQ wQ hRQ hgQ => ?_; have h1Q : aQ.eval (.tmp 82) = .slice (some ⟨g2, 0, none⟩) q c2 := hgQ (.tmp 82) (by simp [Op.operands, Call.operands]); have hcQ : ∀ v, aQ.eval (.const v) = v := fun _ => rfl; generalize aQ.eval = rQ at h1Q hcQ; clear hgQ hRQ; simp [execOp, h1Q, hcQ, resolve, invoke, builtin, go_sem, *] <;> rfl) ?_
                refine allM_cons (by kernel_rfl) (by decide) (fun bQ => by refine quietM fun aQ wQ hRQ hgQ => ?_; have h1Q : aQ.eval (.tmp 81) = .int .i64 (N + 1) := hgQ (.tmp 81) (by simp [Op.operands, Call.operands]); have h2Q : aQ.eval (.tmp 83) = .int .i64 q := hgQ (.tmp 83) (by simp [Op.operands, Call.operands]); have hcQ : ∀ v, aQ.eval (.const v) = v := fun _ => rfl; generalize aQ.eval = rQ at h1Q h2Q hcQ; clear hgQ hRQ; simp [execOp, h1Q, h2Q, hcQ, resolve, invoke, builtin, go_sem, *] <;> rfl) ?_
                refine allM_cons (by kernel_rfl) (by decide) (fun bQ => by refine quietM fun aQ wQ hRQ hgQ => ?_; have h1Q : aQ.eval (.tmp 79) = .bool false := hgQ (.tmp 79) (by simp [Op.operands, Call.operands]); have h2Q : aQ.eval (.tmp 84) = .bool true := hgQ (.tmp 84) (by simp [Op.operands, Call.operands]); have hcQ : ∀ v, aQ.eval (.const v) = v := fun _ => rfl; generalize aQ.eval = rQ at h1Q h2Q hcQ; clear hgQ hRQ; simp [execOp, h1Q, h2Q, hcQ, resolve, invoke, builtin, go_sem, *] <;> rfl) ?_
                refine allM_cons (by kernel_rfl) (by decide) (fun bQ => by refine quietM fun aQ wQ hRQ hgQ => ?_; have h1Q : aQ.eval (.tmp 76) = .bool true := hgQ (.tmp 76) (by simp [Op.operands, Call.operands]); have h2Q : aQ.eval (.tmp 85) = .bool true := hgQ (.tmp 85) (by simp [Op.operands, Call.operands]); have hcQ : ∀ v, aQ.eval (.const v) = v := fun _ => rfl; generalize aQ.eval = rQ at h1Q h2Q hcQ; clear hgQ hRQ; simp [execOp, h1Q, h2Q, hcQ, resolve, invoke, builtin, go_sem, *] <;> rfl) ?_
                refine allM_cons (by kernel_rfl) (by decide) (fun bQ => moveM _ (.inl rfl) rfl) ?_
                refine allM_cons (by kernel_rfl) (by decide) (fun bQ => moveM _ (.inl rfl) rfl) ?_
                refine allM_cons (by kernel_rfl) (by decide) (fun bQ => by refine quietM fun aQ wQ hRQ hgQ => ?_; have h1Q : aQ.eval (.tmp 88) = .slice (some ⟨g2, 0, none⟩) q c2 := hgQ (.tmp 88) (by simp [Op.operands, Call.operands]); have hcQ : ∀ v, aQ.eval (.const v) = v := fun _ => rfl; generalize aQ.eval = rQ at h1Q hcQ; clear hgQ hRQ; simp [execOp, h1Q, hcQ, resolve, invoke, builtin, go_sem, *] <;> rfl) ?_
                refine allM_cons (by kernel_rfl) (by decide) (fun bQ => by refine quietM fun aQ wQ hRQ hgQ => ?_; have h1Q : aQ.eval (.tmp 89) = .int .i64 q := hgQ (.tmp 89) (by simp [Op.operands, Call.operands]); have hcQ : ∀ v, aQ.eval (.const v) = v := fun _ => rfl; generalize aQ.eval = rQ at h1Q hcQ; clear hgQ hRQ; simp [execOp, h1Q, hcQ, resolve, invoke, builtin, go_sem, *] <;> rfl) ?_
                refine allM_cons (by kernel_rfl) (by decide) (fun bQ => moveM _ (.inl rfl) rfl) ?_
                refine allM_cons (by kernel_rfl) (by decide) (fun bQ => moveM _ (.inl rfl) rfl) ?_
                refine allM_cons (by kernel_rfl) (by decide) (fun bQ => moveM _ (.inl rfl) rfl) ?_
                refine allM_cons (by kernel_rfl) (by decide) (fun bQ => by refine quietM fun aQ wQ hRQ hgQ => ?_; have h1Q : aQ.eval (.tmp 93) = .slice (some ⟨g2, 0, none⟩) q c2 := hgQ (.tmp 93) (by simp [Op.operands, Call.operands]); have hcQ : ∀ v, aQ.eval (.const v) = v := fun _ => rfl; generalize aQ.eval = rQ at h1Q hcQ; clear hgQ hRQ; simp [execOp, h1Q, hcQ, resolve, invoke, builtin, go_sem, *] <;> rfl) ?_
                refine allM_cons (by kernel_rfl) (by decide) (fun bQ => by refine quietM fun aQ wQ hRQ hgQ => ?_; have h1Q : aQ.eval (.tmp 94) = .pointer (some ⟨g2, 0, none⟩) := hgQ (.tmp 94) (by simp [Op.operands]); obtain ⟨k0Q, k1Q⟩ := HRC.out bQ wQ hRQ; generalize aQ.eval = rQ at h1Q; clear hgQ hRQ; simp [execOp, h1Q, Instr.loadAt, go_sem, k0Q, k1Q] <;> rfl) ?_
                refine allM_cons (by kernel_rfl) (by decide) (fun bQ => moveM _ (.inl rfl) rfl) ?_
                refine allM_cons (by kernel_rfl) (by decide) (fun bQ => by refine quietM fun aQ wQ hRQ hgQ => ?_; have h1Q : aQ.eval (.tmp 96) = .slice (some ⟨g2, 0, none⟩) q c2 := hgQ (.tmp 96) (by simp [Op.operands, Call.operands]); have hcQ : ∀ v, aQ.eval (.const v) = v := fun _ => rfl; generalize aQ.eval = rQ at h1Q hcQ; clear hgQ hRQ; simp [execOp, h1Q, hcQ, resolve, invoke, builtin, go_sem, *] <;> rfl) ?_
                refine allM_cons (by kernel_rfl) (by decide) (fun bQ => by refine quietM fun aQ wQ hRQ hgQ => ?_; have h1Q : aQ.eval (.tmp 97) = .pointer (some ⟨g2, 0, none⟩) := hgQ (.tmp 97) (by simp [Op.operands]); obtain ⟨k0Q, k1Q⟩ := HRC.out bQ wQ hRQ; generalize aQ.eval = rQ at h1Q; clear hgQ hRQ; simp [execOp, h1Q, Instr.loadAt, go_sem, k0Q, k1Q] <;> rfl) ?_
                refine allM_make (by kernel_rfl) rfl (make_two (.tmp 95) (.tmp 98) x y x y rfl rfl rfl rfl) ?_
                refine allM_need (by kernel_rfl) (by decide) (by kernel_rfl) (pureM (pure_call _ _ _ _ fv_enters rfl rfl (fun osQ dQ => CF.out _ _ (HIA.out osQ dQ) (HIB.out osQ dQ)))) ?_
                refine allM_cons (by kernel_rfl) (by decide) (fun bQ => by refine quietM fun aQ wQ hRQ hgQ => ?_; have h1Q : aQ.eval (.tmp 100) = .int .i64 (-1) := hgQ (.tmp 100) (by simp [Op.operands, Call.operands]); have hcQ : ∀ v, aQ.eval (.const v) = v := fun _ => rfl; generalize aQ.eval = rQ at h1Q hcQ; clear hgQ hRQ; simp [execOp, h1Q, hcQ, resolve, invoke, builtin, go_sem, *] <;> rfl) ?_
                refine allM_cons (by kernel_rfl) (by decide) (fun bQ => by refine quietM fun aQ wQ hRQ hgQ => ?_; have h1Q : aQ.eval (.tmp 91) = .bool false := hgQ (.tmp 91) (by simp [Op.operands, Call.operands]); have h2Q : aQ.eval (.tmp 101) = .bool true := hgQ (.tmp 101) (by simp [Op.operands, Call.operands]); have hcQ : ∀ v, aQ.eval (.const v) = v := fun _ => rfl; generalize aQ.eval = rQ at h1Q h2Q hcQ; clear hgQ hRQ; simp [execOp, h1Q, h2Q, hcQ, resolve, invoke, builtin, go_sem, *] <;> rfl) ?_
                refine allM_cons (by kernel_rfl) (by decide) (fun bQ => by refine quietM fun aQ wQ hRQ hgQ => ?_; have h1Q : aQ.eval (.tmp 87) = .bool true := hgQ (.tmp 87) (by simp [Op.operands, Call.operands]); have h2Q : aQ.eval (.tmp 102) = .bool true := hgQ (.tmp 102) (by simp [Op.operands, Call.operands]); have hcQ : ∀ v, aQ.eval (.const v) = v := fun _ => rfl; generalize aQ.eval = rQ at h1Q h2Q hcQ; clear hgQ hRQ; simp [execOp, h1Q, h2Q, hcQ, resolve, invoke, builtin, go_sem, *] <;> rfl) ?_
                exact True.intro
              · intro W9 hW9
                simp only [putAll, Act.put, List.setIfInBounds_toArray, List.set_cons_succ, List.set_cons_zero]
                obtain ⟨os9, d9, rfl⟩ := hW9
                refine last_assign (.tmp 103) 2 (.bool true) rfl rfl rfl ?_
                simp only [Act.put, List.setIfInBounds_toArray, List.set_cons_succ, List.set_cons_zero]
                show Exit.then _ _ Exit.normal _ _
                go_wp2
                go_ret
                exact ⟨rfl, up_of_below (below_plus (HRW.out.alloc HRW.out.size _) _ _)⟩
  · go_enter Try.func11, Try.ntmps11
    go_wp2
    go_ret
    exact ⟨rfl, up_of_below (Below.refl _ _)⟩

end Go.Proofs.Ytfdpdhinigfpfaa
