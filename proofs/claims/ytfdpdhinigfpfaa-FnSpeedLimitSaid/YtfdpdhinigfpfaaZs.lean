/-
  The walk of the law on limits of speed. No condition.
-/
import Derived.Test.YtfdpdhinigfpfaaZj
namespace Go.Proofs.Ytfdpdhinigfpfaa
set_option linter.unusedSimpArgs false
open Go.RowKit

theorem pure_loadAt {w0 : World} {A : Act} {o : Oper} (x : Operand) (r i : Nat) (x0 x1 : Int) (h : o.op = .load 36 x) (hx : A.eval x = .pointer (some ⟨r, i, none⟩)) (hb : ∀ os d, (plus w0 os d).cell? ⟨r, i, none⟩ = some (.int .i64 x0) ∧ (plus w0 os d).cell? ⟨r, i + 1, none⟩ = some (.int .i64 x1)) (hv : gd A (o.dst.getD 0) = .agg #[.int .i64 x0, .int .i64 x1]) : PureStep Try.prog w0 A o := by
  refine pure_quiet fun a os d hg => ?_
  have gx := (hg x (by simp [h, Op.operands])).trans hx
  rw [hv]
  obtain ⟨c0, c1⟩ := hb os d
  generalize a.eval = ρ at gx
  generalize plus w0 os d = W at c0 c1
  simp [execOp, h, gx, Instr.loadAt, go_sem, c0, c1]
theorem pure_loadI {w0 : World} {A : Act} {o : Oper} (x : Operand) (r i : Nat) (x0 : Int) (h : o.op = .load 3 x) (hx : A.eval x = .pointer (some ⟨r, i, none⟩)) (hb : ∀ os d, (plus w0 os d).cell? ⟨r, i, none⟩ = some (.int .i64 x0)) (hv : gd A (o.dst.getD 0) = .int .i64 x0) : PureStep Try.prog w0 A o := by
  refine pure_quiet fun a os d hg => ?_
  have gx := (hg x (by simp [h, Op.operands])).trans hx
  rw [hv]
  have c0 := hb os d
  generalize a.eval = ρ at gx
  generalize plus w0 os d = W at c0
  simp [execOp, h, gx, Instr.loadAt, go_sem, c0]
theorem last_quiet {o : Oper} {a : Act} {w : World} {K : Act → World → Prop} {Q : Exit → Act → World → Prop} (d : Nat) (v : Value) (hd : o.dst = some d) (hrun : (execOp a.eval o).run Try.prog w = .ok (.value v) w) (hk : K (a.put (some d) v) w) : o.wp Try.prog a w K Q := by
  rw [← hd] at hk
  unfold Oper.wp
  rw [hrun]
  exact hk
theorem last_gtr {o : Oper} {a : Act} {w : World} {K : Act → World → Prop} {Q : Exit → Act → World → Prop} (x y : Operand) (d : Nat) (L S : Int) (h : o.op = .binOp .gtr 3 x y 3) (hx : a.eval x = .int .i64 L) (hy : a.eval y = .int .i64 S) (hn : ¬ S < L) (hd : o.dst = some d) (hk : K (a.put (some d) (.bool false)) w) : o.wp Try.prog a w K Q := by
  refine last_quiet d (.bool false) hd ?_ hk
  have hn' := Int.not_lt.1 hn
  generalize a.eval = ρ at hx hy
  simp [execOp, h, hx, hy, go_sem, hn, hn']

set_option maxHeartbeats 2000000 in
theorem lawSpeedLimit_any (a : Option Addr) (n c : Nat) (w : World) (hb : Bytes w w.heap.size a n) (hnc : n ≤ c) (hcm : c ≤ maxLen) :
    Calls Try.prog 9 #[.slice a n c] w fun e w' => e = .returned (.bool true) ∧ Up w w' := by
  have hmm : c ≤ 9223372036854775807 := by unfold maxLen at hcm; omega
  by_cases hn : n ≤ 1048576
  · go_enter Try.func9, Try.ntmps9
    go_wp2_with (go_at_call 29; refine (drawSpeedLimit_any _ _ _ _ hb hnc hcm).mono ?_; rintro e w1 ⟨m, zs, g, c1, x, y, hxy, rfl, hD⟩)
    have hz := hD.2.1.len
    obtain ⟨hmc, hc1⟩ := hD.short
    have hm7 := hD.1
    have HP := Lib.hid (BoxP.made w1 x y)
    have hb1 : Below w1.heap.size w1 (w1.alloc (.cells #[.int .i64 x, .int .i64 y] 36)) := (Below.refl _ _).alloc (Nat.le_refl _) _
    have HI := Lib.hid (hD.2.1.ints.2.below hb1)
    have HW := Lib.hid (hD.2.2.trans (hb1.mono hD.2.2.size))
    have HZ := Lib.hid hz
    have hP1 := hb1.size
    clear hb1 hD hz hb hxy
    generalize w1.alloc (.cells #[.int .i64 x, .int .i64 y] 36) = W1 at HP HI HW hP1 ⊢
    generalize w1.heap.size = P at HP hP1 ⊢
    have C1 := Lib.hid (fun W h => limit_any (some ⟨g, 0, none⟩) m c1 zs x y W HZ.out h (by omega))
    have C2 := Lib.hid (fun W h => sLimit_any (some ⟨g, 0, none⟩) m c1 zs x y W HZ.out h (by omega))
    have hneg : ¬ limB m zs x y = true → limF m zs x y = -1 := fun h => by rw [limF, if_neg h]
    have hpos : limB m zs x y = true → 0 ≤ limF m zs x y ∧ limF m zs x y ≤ 200 ∧ metB zs (limF m zs x y) m = true ∧ (m = 0 → limF m zs x y = 200) := fun h => by
      have h' := h
      rw [limF, if_pos h]
      unfold limB at h
      rw [Bool.and_eq_true] at h
      have := limN_bd (u := x) (v := y) (zonesB_t.1 h.1).2
      exact ⟨this.1, this.2, lim_met zs x y m, fun e => by subst e; rfl⟩
    have hless : ∀ k, m = k + 1 → limB m zs x y = true → limF m zs x y ≤ limF k (zs.take (k * 4)) x y := fun k hk h => by subst hk; exact lim_less h
    generalize limF m zs x y = V at C1 C2 hneg hpos hless
    have HL := Lib.hid hless
    clear hless
    refine (C1.out _ HI.out).mono ?_
    rintro e w2 ⟨rfl, hU⟩
    have HI2 := Lib.hid (HI.out.below hU.below)
    have HP2 := Lib.hid (HP.out.below hU.below)
    have HW2 := Lib.hid (HW.out.trans (hU.below.mono HW.out.size))
    have d0 := HP2.out.c0
    have d1 := HP2.out.c1
    clear hU HI HP HW hP1
    go_wp2_with fail
    refine (C2.out _ HI2.out).mono ?_
    rintro e w3 ⟨rfl, hU⟩
    have HI3 := Lib.hid (HI2.out.below hU.below)
    have HP3 := Lib.hid (HP2.out.below hU.below)
    have HW3 := Lib.hid (HW2.out.trans (hU.below.mono HW2.out.size))
    clear hU HI2 HP2 HW2 d0 d1 C1 C2
    by_cases hB : limB m zs x y = true
    · obtain ⟨hV, hV2, hmet, hm0⟩ := hpos hB
      have hV' : ¬ V < 0 := by omega
      clear hneg hpos
      have HB := Lib.hid hB
      have HMet := Lib.hid hmet
      clear hB hmet
      by_cases hz0 : m = 0
      · obtain rfl := hm0 hz0
        subst hz0
        go_wp2
        go_ret
        exact ⟨rfl, up_of_below HW3.out⟩
      · have hmz : ((m : Int) == 0) = false := by simp; omega
        clear hm0
        go_wp2
        clear hmz
        go_loopw [6, 7] (fun mv kv wr => ∃ j : Nat, j ≤ m ∧ kv = .int .i64 j ∧ mv = .bool (metB zs V j) ∧ Hid (Ints wr (some ⟨g, 0, none⟩) zs) ∧ Hid (BoxP wr P x y) ∧ Hid (Below w.heap.size w wr)) (fun _ kv _ => m - (intOf kv).toNat)
        case atStart => exact ⟨0, Nat.zero_le _, rfl, rfl, HI3, HP3, HW3⟩
        case round =>
          obtain ⟨j, hj, rfl, rfl, HI5, HP5, HW5⟩ := hrel
          by_cases hlt : j < m
          · have hlt' : (j : Int) < (m : Int) := by omega
            have hzB : zonesB m zs = true := by have := HB.out; unfold limB at this; rw [Bool.and_eq_true] at this; exact this.1
            have hokj := okZ_t.1 ((zonesB_t.1 hzB).2 j hlt)
            have hlc : limF m zs (zX zs j) (zY zs j) ≤ zS zs j := by
              have hb' : limB m zs (zX zs j) (zY zs j) = true := by unfold limB; rw [hzB, ptB_t.2 hokj.1]; rfl
              rw [limF, if_pos hb']
              exact lim_center hlt
            obtain ⟨blk, off, he, hb5, c0, c1', c2, c3⟩ := HI5.out.zone HZ.out hlt
            simp only [Option.some.injEq, Addr.mk.injEq, and_true] at he
            obtain ⟨rfl, rfl⟩ := he
            rw [Nat.zero_add] at c0 c1' c2 c3
            have HM : Hid (metB zs V (j + 1) = (metB zs V j || V == zS zs j)) := rfl
            have CJ := Lib.hid (fun W h => limit_any (some ⟨g, 0, none⟩) m c1 zs (zX zs j) (zY zs j) W HZ.out h (by omega))
            generalize limF m zs (zX zs j) (zY zs j) = L at hlc CJ
            generalize zX zs j = xj at c0 CJ
            generalize zY zs j = yj at c1' CJ
            generalize zS zs j = sj at c3 hlc HM
            clear hokj hzB c2
            have hng : ¬ sj < L := by omega
            have K0 := Lib.hid c0
            have K1 := Lib.hid c1'
            have K3 := Lib.hid c3
            cases hA : metB zs V j
            all_goals
              rw [hA] at HM
              obtain ⟨db, hdb⟩ : ∃ db, (V == sj) = db := ⟨_, rfl⟩
              go_wp2
              refine wp_region_any (by kernel_rfl) ?_
              refine region_last [(54, .slice (some ⟨g, 0, none⟩) m c1), (55, .slice (some ⟨g, 0, none⟩) m c1), (56, .int .i64 j), (57, .pointer (some ⟨g, j * 4, none⟩)), (58, .pointer (some ⟨g, j * 4, none⟩)), (59, .agg #[.int .i64 xj, .int .i64 yj]), (60, .int .i64 L), (61, .slice (some ⟨g, 0, none⟩) m c1), (62, .int .i64 j), (63, .pointer (some ⟨g, j * 4, none⟩)), (64, .pointer (some ⟨g, j * 4 + 3, none⟩)), (65, .int .i64 sj)] _ _ (by kernel_rfl) (by kernel_rfl) ?_ _ rfl ?_
              · simp only [putAll, Act.put, List.setIfInBounds_toArray, List.set_cons_succ, List.set_cons_zero]
                refine allPure_cons (pure_move _ (.inl rfl) rfl) ?_
                refine allPure_cons (pure_move _ (.inl rfl) rfl) ?_
                refine allPure_cons (pure_move _ (.inl rfl) rfl) ?_
                refine allPure_cons (by (refine pure_quiet fun aQ osQ dQ hgQ => ?_; have h1Q : aQ.eval (.tmp 55) = (.slice (some ⟨g, 0, none⟩) m c1) := hgQ (.tmp 55) (by simp [Op.operands, Call.operands]); have h2Q : aQ.eval (.tmp 56) = (.int .i64 j) := hgQ (.tmp 56) (by simp [Op.operands, Call.operands]); have hcQ : ∀ v, aQ.eval (.const v) = v := fun _ => rfl; generalize aQ.eval = rQ at h1Q h2Q hcQ; clear hgQ; simp [execOp, h1Q, h2Q, hcQ, resolve, invoke, builtin, go_sem, *] <;> rfl)) ?_
                refine allPure_cons (by (refine pure_quiet fun aQ osQ dQ hgQ => ?_; have h1Q : aQ.eval (.tmp 57) = (.pointer (some ⟨g, j * 4, none⟩)) := hgQ (.tmp 57) (by simp [Op.operands, Call.operands]); have hcQ : ∀ v, aQ.eval (.const v) = v := fun _ => rfl; generalize aQ.eval = rQ at h1Q hcQ; clear hgQ; simp [execOp, h1Q, hcQ, resolve, invoke, builtin, go_sem, *] <;> rfl)) ?_
                refine allPure_cons (pure_loadAt _ g (j * 4) xj yj rfl rfl (fun os d => ⟨((below_plus (Below.refl wr.heap.size wr) os d).cell (p := ⟨g, j * 4, none⟩) hb5).trans K0.out, ((below_plus (Below.refl wr.heap.size wr) os d).cell (p := ⟨g, j * 4 + 1, none⟩) hb5).trans K1.out⟩) rfl) ?_
                refine allPure_cons (pure_call _ _ _ _ lim_enters rfl rfl (fun os' d' => CJ.out _ (HI5.out.below (below_plus (Below.refl _ _) os' d')))) ?_
                refine allPure_cons (pure_move _ (.inl rfl) rfl) ?_
                refine allPure_cons (pure_move _ (.inl rfl) rfl) ?_
                refine allPure_cons (by (refine pure_quiet fun aQ osQ dQ hgQ => ?_; have h1Q : aQ.eval (.tmp 61) = (.slice (some ⟨g, 0, none⟩) m c1) := hgQ (.tmp 61) (by simp [Op.operands, Call.operands]); have h2Q : aQ.eval (.tmp 62) = (.int .i64 j) := hgQ (.tmp 62) (by simp [Op.operands, Call.operands]); have hcQ : ∀ v, aQ.eval (.const v) = v := fun _ => rfl; generalize aQ.eval = rQ at h1Q h2Q hcQ; clear hgQ; simp [execOp, h1Q, h2Q, hcQ, resolve, invoke, builtin, go_sem, *] <;> rfl)) ?_
                refine allPure_cons (by (refine pure_quiet fun aQ osQ dQ hgQ => ?_; have h1Q : aQ.eval (.tmp 63) = (.pointer (some ⟨g, j * 4, none⟩)) := hgQ (.tmp 63) (by simp [Op.operands, Call.operands]); have hcQ : ∀ v, aQ.eval (.const v) = v := fun _ => rfl; generalize aQ.eval = rQ at h1Q hcQ; clear hgQ; simp [execOp, h1Q, hcQ, resolve, invoke, builtin, go_sem, *] <;> rfl)) ?_
                refine allPure_cons (pure_loadI _ g (j * 4 + 3) sj rfl rfl (fun os d => ((below_plus (Below.refl wr.heap.size wr) os d).cell (p := ⟨g, j * 4 + 3, none⟩) hb5).trans K3.out) rfl) ?_
                exact True.intro
              · intro os' d'
                simp only [putAll, Act.put, List.setIfInBounds_toArray, List.set_cons_succ, List.set_cons_zero]
                refine last_gtr (.tmp 60) (.tmp 65) 66 L sj rfl rfl rfl (show ¬ sj < L by omega) rfl ?_
                simp only [Act.put, List.setIfInBounds_toArray, List.set_cons_succ, List.set_cons_zero]
                show Exit.then _ _ Exit.normal _ _
                go_wp2
                go_roundw
                case rel => exact ⟨j + 1, by omega, by go_num, by rw [HM.out]; first | rfl | simp [hdb] | (rw [hdb]; cases db <;> rfl), HI5.out.below (below_plus (Below.refl _ _) os' d'), HP5.out.plus _ _, below_plus HW5.out _ _⟩
                case measure => simp [intOf]; omega
          · have hlt' : ¬ (j : Int) < (m : Int) := by omega
            obtain rfl : j = m := by omega
            rw [HMet.out]
            obtain ⟨k, hk⟩ : ∃ k, j = k + 1 := ⟨j - 1, by omega⟩
            have cT := Lib.hid (fun W hi => limit_any (some ⟨g, 0, none⟩) k c1 (zs.take (k * 4)) x y W (by have := HZ.out; rw [List.length_take]; omega) hi (by omega))
            have hls := HL.out k hk HB.out
            generalize limF k (zs.take (k * 4)) x y = L3 at cT hls
            have hsub : IntKind.i64.wrap ((j : Int) - 1) = (k : Int) := by rw [show (j : Int) - 1 = (k : Int) by omega]; exact IntWalk.i64_in _ (by omega)
            have hkc : (k : Int) ≤ (c1 : Int) := by omega
            have hk0 : ¬ ((k : Int) < 0) := by omega
            clear hk HL HB HMet
            go_wp2
            refine wp_region_any (by kernel_rfl) ?_
            refine region_lastG [(67, .bool true), (68, .bool true), (69, .slice (some ⟨g, 0, none⟩) j c1), (70, .slice (some ⟨g, 0, none⟩) j c1), (71, .int .i64 j), (72, .int .i64 k), (73, .slice (some ⟨g, 0, none⟩) k c1), (74, .agg #[.int .i64 x, .int .i64 y]), (75, .int .i64 L3), (76, .int .i64 V), (77, .bool true), (78, .bool true)] [(68, true)] _ _ (by kernel_rfl) (by kernel_rfl) ?_ ?_ _ rfl ?_
            · simp only [putAll, Act.put, List.setIfInBounds_toArray, List.set_cons_succ, List.set_cons_zero]
              intro g hg
              simp only [List.mem_cons, List.not_mem_nil, or_false] at hg
              subst hg
              rfl
            · simp only [putAll, Act.put, List.setIfInBounds_toArray, List.set_cons_succ, List.set_cons_zero]
              refine allG_cons (pure_move _ (.inl rfl) rfl) (by kernel_rfl) ?_
              refine allG_cons (pure_move _ (.inl rfl) rfl) (by kernel_rfl) ?_
              refine allG_cons (pure_move _ (.inl rfl) rfl) (by kernel_rfl) ?_
              refine allG_cons (pure_move _ (.inl rfl) rfl) (by kernel_rfl) ?_
              refine allG_cons (by (refine pure_quiet fun aQ osQ dQ hgQ => ?_; have h1Q : aQ.eval (.tmp 70) = (.slice (some ⟨g, 0, none⟩) j c1) := hgQ (.tmp 70) (by simp [Op.operands, Call.operands]); have hcQ : ∀ v, aQ.eval (.const v) = v := fun _ => rfl; generalize aQ.eval = rQ at h1Q hcQ; clear hgQ; simp [execOp, h1Q, hcQ, resolve, invoke, builtin, go_sem, *] <;> rfl)) (by kernel_rfl) ?_
              refine allG_cons (by (refine pure_quiet fun aQ osQ dQ hgQ => ?_; have h1Q : aQ.eval (.tmp 71) = (.int .i64 j) := hgQ (.tmp 71) (by simp [Op.operands, Call.operands]); have hcQ : ∀ v, aQ.eval (.const v) = v := fun _ => rfl; generalize aQ.eval = rQ at h1Q hcQ; clear hgQ; simp [execOp, h1Q, hcQ, resolve, invoke, builtin, go_sem, *] <;> rfl)) (by kernel_rfl) ?_
              refine allG_cons (by (refine pure_quiet fun aQ osQ dQ hgQ => ?_; have h1Q : aQ.eval (.tmp 69) = (.slice (some ⟨g, 0, none⟩) j c1) := hgQ (.tmp 69) (by simp [Op.operands, Call.operands]); have h2Q : aQ.eval (.tmp 72) = (.int .i64 k) := hgQ (.tmp 72) (by simp [Op.operands, Call.operands]); have hcQ : ∀ v, aQ.eval (.const v) = v := fun _ => rfl; generalize aQ.eval = rQ at h1Q h2Q hcQ; clear hgQ; simp [execOp, h1Q, h2Q, hcQ, resolve, invoke, builtin, go_sem, *] <;> rfl)) (by kernel_rfl) ?_
              refine allG_cons (pure_loadP _ P x y rfl rfl HP5.out rfl) (by kernel_rfl) ?_
              refine allG_cons (pure_call _ _ _ _ lim_enters rfl rfl (fun os' d' => cT.out _ ((HI5.out.below (below_plus (Below.refl _ _) os' d')).take _))) (by kernel_rfl) ?_
              refine allG_cons (pure_move _ (.inl rfl) rfl) (by kernel_rfl) ?_
              refine allG_cons (by (refine pure_quiet fun aQ osQ dQ hgQ => ?_; have h1Q : aQ.eval (.tmp 75) = (.int .i64 L3) := hgQ (.tmp 75) (by simp [Op.operands, Call.operands]); have h2Q : aQ.eval (.tmp 76) = (.int .i64 V) := hgQ (.tmp 76) (by simp [Op.operands, Call.operands]); have hcQ : ∀ v, aQ.eval (.const v) = v := fun _ => rfl; generalize aQ.eval = rQ at h1Q h2Q hcQ; clear hgQ; simp [execOp, h1Q, h2Q, hcQ, resolve, invoke, builtin, go_sem, *] <;> rfl)) (by kernel_rfl) ?_
              refine allG_cons (by (refine pure_quiet fun aQ osQ dQ hgQ => ?_; have h1Q : aQ.eval (.tmp 68) = (.bool true) := hgQ (.tmp 68) (by simp [Op.operands, Call.operands]); have h2Q : aQ.eval (.tmp 77) = (.bool true) := hgQ (.tmp 77) (by simp [Op.operands, Call.operands]); have hcQ : ∀ v, aQ.eval (.const v) = v := fun _ => rfl; generalize aQ.eval = rQ at h1Q h2Q hcQ; clear hgQ; simp [execOp, h1Q, h2Q, hcQ, resolve, invoke, builtin, go_sem, *] <;> rfl)) (by kernel_rfl) ?_
              exact True.intro
            · intro os' d'
              simp only [putAll, Act.put, List.setIfInBounds_toArray, List.set_cons_succ, List.set_cons_zero]
              refine last_assign (.tmp 78) 2 (.bool true) rfl rfl rfl ?_
              simp only [Act.put, List.setIfInBounds_toArray, List.set_cons_succ, List.set_cons_zero]
              show Exit.then _ _ Exit.normal _ _
              go_wp2
              go_ret
              exact ⟨rfl, up_of_below (below_plus HW5.out _ _)⟩
    · obtain rfl := hneg hB
      clear hpos
      go_wp2_with (first | (go_at_call 18; refine (alive_any _).mono ?_; rintro e w' ⟨rfl, rfl⟩))
      go_ret
      exact ⟨rfl, up_of_below HW3.out⟩
  · go_enter Try.func9, Try.ntmps9
    go_wp2
    go_ret
    exact ⟨rfl, up_of_below (Below.refl _ _)⟩

end Go.Proofs.Ytfdpdhinigfpfaa
