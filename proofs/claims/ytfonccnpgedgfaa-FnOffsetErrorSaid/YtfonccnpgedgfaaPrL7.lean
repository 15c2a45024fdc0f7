/-
  The walk of the law on the errors of offsets. No condition.
-/
import Derived.Test.YtfonccnpgedgfaaPrD2
import Derived.Test.YtfonccnpgedgfaaPrN
import Derived.Test.YtfonccnpgedgfaaPrL5
import Derived.Test.YtfonccnpgedgfaaPrL6
import Derived.Test.YtfonccnpgedgfaaLastG
namespace Go.Proofs.Ytfonccnpgedgfaa
set_option linter.unusedSimpArgs false
open Go.RowKit

theorem err_enters (args : Array Value) (w : World) : (callFunc 20 args).run Try.prog w = .ok (.enter 20 args) w := (enters_of Try.func20 (by kernel_rfl) rfl) args w
theorem last_assign {o : Oper} {a : Act} {w : World} {K : Act → World → Prop} {Q : Exit → Act → World → Prop} (x : Operand) (d : Nat) (v : Value) (h : o.op = .assign x) (hd : o.dst = some d) (hv : a.eval x = v) (hk : K (a.put (some d) v) w) : o.wp Try.prog a w K Q := by
  subst hv
  rw [← hd] at hk
  have hrun : (execOp a.eval o).run Try.prog w = .ok (.value (a.eval x)) w := by
    generalize a.eval = ρ
    simp [execOp, h, go_sem]
  unfold Oper.wp
  rw [hrun]
  exact hk

set_option maxHeartbeats 4000000 in
theorem lawOffsetError_any (a : Option Addr) (n c : Nat) (w : World) (hb : Bytes w w.heap.size a n) (hnc : n ≤ c) (hcm : c ≤ maxLen) :
    Calls Try.prog 7 #[.slice a n c] w fun e w' => e = .returned (.bool true) ∧ Up w w' := by
  have hmm : c ≤ 9223372036854775807 := by unfold maxLen at hcm; omega
  by_cases hn : n ≤ 1048576
  · go_enter Try.func7, Try.ntmps7
    go_wp2_with (go_at_call 23; refine (drawOffsetError_any _ _ _ _ hb hnc hcm).mono ?_; rintro e w1 ⟨m, zs, a1, c1, o, ho, rfl, hD⟩)
    have hz := hD.2.1.len
    obtain ⟨hmc, hc1⟩ := hD.short
    have hm21 := hD.1.1
    have HI := Lib.hid hD.2.1.ints.2
    have HW := Lib.hid hD.2.2
    have HZ := Lib.hid hz
    clear hD hz hb
    obtain ⟨ho1, ho2⟩ := ho
    have ci := fun W h => err_any a1 m c1 zs o W HZ.out h (by omega)
    have cs := fun W h => sErr_any a1 m c1 zs o W HZ.out h (by omega)
    cases hB : errB zs o m
    · have e0 : errF zs o m = -1 := by rw [errF, hB]; rfl
      rw [e0] at ci cs
      clear e0 hB
      go_wp2_with fail
      refine (ci _ HI.out).mono ?_
      rintro e w2 ⟨rfl, hU⟩
      have HI2 := Lib.hid (HI.out.below hU.below)
      have HW2 := Lib.hid (HW.out.trans (hU.below.mono HW.out.size))
      clear hU
      go_wp2_with fail
      refine (cs _ HI2.out).mono ?_
      rintro e w3 ⟨rfl, hU⟩
      have HW3 := Lib.hid (HW2.out.trans (hU.below.mono HW2.out.size))
      clear hU ci cs
      go_wp2_with (first | (go_at_call 24; refine (alive_any _).mono ?_; rintro e w' ⟨rfl, rfl⟩))
      go_ret
      exact ⟨rfl, up_of_below HW3.out⟩
    · have HE := Lib.hid (err_zero hB)
      have HS := Lib.hid (fun h h1 h2 => err_split (h := h) hB h1 h2)
      have hEb : 0 ≤ errF zs o m ∧ errF zs o m ≤ 800000000 := by
        have hb := hB
        unfold errB at hb
        rw [Bool.and_eq_true] at hb
        have hp := pairsB_t.1 hb.1
        have ho := inB_t.1 hb.2
        have := errS_bd (zs := zs) (o := o) (n := m) hp.2 ho.1 ho.2
        rw [errF, if_pos hB]; omega
      have hm1 : 1 ≤ m := by
        have hb := hB
        unfold errB at hb
        rw [Bool.and_eq_true] at hb
        have := (pairsB_t.1 hb.1).1; omega
      have hok : ∀ j, j < m → okP zs j = true := by
        have hb := hB
        unfold errB at hb
        rw [Bool.and_eq_true] at hb
        exact (pairsB_t.1 hb.1).2
      have HK := Lib.hid hok
      clear hok hB
      obtain ⟨E, hE⟩ : ∃ E, E = errF zs o m := ⟨_, rfl⟩
      rw [← hE] at ci cs hEb HE
      have HEq := Lib.hid hE
      clear hE
      obtain ⟨E1, E2⟩ := hEb
      go_wp2_with fail
      refine (ci _ HI.out).mono ?_
      rintro e w2 ⟨rfl, hU⟩
      have HI2 := Lib.hid (HI.out.below hU.below)
      have HW2 := Lib.hid (HW.out.trans (hU.below.mono HW.out.size))
      clear hU
      go_wp2_with fail
      refine (cs _ HI2.out).mono ?_
      rintro e w3 ⟨rfl, hU⟩
      have HI3 := Lib.hid (HI2.out.below hU.below)
      have HW3 := Lib.hid (HW2.out.trans (hU.below.mono HW2.out.size))
      clear hU ci cs HI HI2 HW HW2
      have hEn : ¬ E < 0 := by omega
      go_wp2
      go_loopw [6, 7] (fun av iv wr => ∃ j : Nat, j ≤ m ∧ iv = .int .i64 j ∧ av = .bool (allB (fun i => decide (pD zs i = o)) j) ∧ ∃ d, wr = drw w3 d) (fun _ iv _ => m - (intOf iv).toNat)
      case atStart => exact ⟨0, Nat.zero_le _, rfl, rfl, _, drw_id.symm⟩
      case round =>
        obtain ⟨j, hj, rfl, rfl, d, rfl⟩ := hrel
        by_cases hlt : j < m
        · have hlt' : (j : Int) < (m : Int) := by omega
          obtain ⟨blk, off, rfl, hb3, c0, c1'⟩ := HI3.out.pair HZ.out hlt
          have hokj := okP_t.1 (HK.out j hlt)
          obtain ⟨⟨x1, x2⟩, y1, y2⟩ := hokj
          have HA : Hid (allB (fun i => decide (pD zs i = o)) (j + 1) = (allB (fun i => decide (pD zs i = o)) j && decide (pY zs j - pX zs j = o))) := rfl
          generalize pX zs j = x at c0 x1 x2 HA
          generalize pY zs j = y at c1' y1 y2 HA
          have wa : IntKind.i64.wrap (y - x) = y - x := IntWalk.i64_in _ (by omega)
          cases hA : allB (fun i => decide (pD zs i = o)) j
          all_goals
            rw [hA] at HA
            by_cases hd : y - x = o
            all_goals
              have hdb : (y - x == o) = decide (y - x = o) := by rfl
              go_wp2
              go_quiet (fail)
              go_wp2
              go_roundw
              case rel => exact ⟨j + 1, by omega, by go_num, by rw [HA.out]; first | rfl | simp [hd], _, rfl⟩
              case measure => simp [intOf]; omega
        · have hlt' : ¬ (j : Int) < (m : Int) := by omega
          obtain rfl : j = m := by omega
          rw [← HE.out]
          obtain ⟨h, hh⟩ : ∃ h, h = j / 2 := ⟨_, rfl⟩
          have e1 : (j : Int).tdiv 2 = (h : Int) := by rw [hh, Int.tdiv_eq_ediv_of_nonneg (by omega)]; simp
          have HD := Lib.hid (show Up w (drw w3 d) from up_of_below (below_drw HW3.out d))
          have HH := Lib.hid hh
          have hhlt : h < j := by omega
          clear hh
          by_cases h0 : h = 0
          · subst h0
            go_wp2
            go_quiet (fail)
            go_wp2
            go_ret
            exact ⟨rfl, up_of_below (below_drewN (below_drw HW3.out d) _)⟩
          · have h1 : 1 ≤ h := by omega
            have h2 : h < j := hhlt
            have hz0 : ((h : Int) == 0) = false := by simp; omega
            obtain ⟨hsum, ⟨b1, b2⟩, b3, b4⟩ := HS.out h h1 h2
            rw [← HEq.out] at hsum
            rcases HI3.out.pair HZ.out (show 0 < j by omega) with ⟨blk, off, rfl, hb3, _, _⟩
            have cT := fun W hi => err_any (some ⟨blk, off, none⟩) h c1 (zs.take (h * 2)) o W (by have := HZ.out; rw [List.length_take]; omega) hi (by omega)
            have cD := fun W hi => err_any (some ⟨blk, off + h * 2, none⟩) (j - h) (c1 - h) (zs.drop (h * 2)) o W (by have := HZ.out; rw [List.length_drop]; omega) hi (by omega)
            generalize errF (zs.take (h * 2)) o h = A1 at hsum b1 b2 cT
            generalize errF (zs.drop (h * 2)) o (j - h) = A2 at hsum b3 b4 cD
            have w1 : IntKind.i64.wrap (A1 + A2) = E := by rw [hsum]; exact IntWalk.i64_in _ (by omega)
            have hl1 : (h : Int) ≤ (c1 : Int) := by omega
            have hl2 : (h : Int) ≤ (j : Int) := by omega
            have hl3 : (j : Int) ≤ (c1 : Int) := by omega
            have hne : ¬ c1 = h := by omega
            have HIj := Lib.hid (HI3.out.drw d)
            have CT := Lib.hid cT
            have CD := Lib.hid cD
            clear cT cD
            have h0i : ¬ (h : Int) = 0 := by omega
            obtain ⟨eb, hE0⟩ : ∃ eb, eb = (E == 0) := ⟨_, rfl⟩
            have he1 : (E == 0) = eb := hE0.symm
            rw [← hE0]
            clear hE0 hsum b1 b2 b3 b4 E1 E2
            go_wp2
            refine wp_region_any (by kernel_rfl) ?_
            refine region_lastG [(57, .int .i64 E), (58, .bool eb), (59, .bool eb), (60, .bool true), (61, .bool true), (62, .int .i64 h), (63, .bool false), (64, .bool false), (65, .int .i64 E), (66, .slice (some ⟨blk, off, none⟩) j c1), (67, .int .i64 h), (68, .slice (some ⟨blk, off, none⟩) h c1), (69, .int .i64 o), (70, .int .i64 A1), (71, .slice (some ⟨blk, off, none⟩) j c1), (72, .int .i64 h), (73, .slice (some ⟨blk, off + h * 2, none⟩) (j - h) (c1 - h)), (74, .int .i64 o), (75, .int .i64 A2), (76, .int .i64 E), (77, .bool true), (78, .bool true), (79, .bool true)] [(61, true), (64, false)] _ _ (by kernel_rfl) (by kernel_rfl) ?_ ?_ _ rfl ?_
            · simp only [putAll, Act.put, List.setIfInBounds_toArray, List.set_cons_succ, List.set_cons_zero]
              intro g hg
              simp only [List.mem_cons, List.not_mem_nil, or_false] at hg
              rcases hg with rfl | rfl <;> rfl
            · simp only [putAll, Act.put, List.setIfInBounds_toArray, List.set_cons_succ, List.set_cons_zero]
              refine allG_cons (pure_move _ (.inl rfl) rfl) (by kernel_rfl) ?_
              refine allG_cons (by (refine pure_quiet fun aQ osQ dQ hgQ => ?_; have h1Q : aQ.eval (.tmp 57) = (.int .i64 E) := hgQ (.tmp 57) (by simp [Op.operands, Call.operands]); have hcQ : ∀ v, aQ.eval (.const v) = v := fun _ => rfl; generalize aQ.eval = rQ at h1Q hcQ; clear hgQ; simp [execOp, h1Q, hcQ, resolve, invoke, builtin, go_sem, *] <;> rfl)) (by kernel_rfl) ?_
              refine allG_cons (pure_move _ (.inl rfl) rfl) (by kernel_rfl) ?_
              refine allG_cons (by (refine pure_quiet fun aQ osQ dQ hgQ => ?_; have h1Q : aQ.eval (.tmp 58) = (.bool eb) := hgQ (.tmp 58) (by simp [Op.operands, Call.operands]); have h2Q : aQ.eval (.tmp 59) = (.bool eb) := hgQ (.tmp 59) (by simp [Op.operands, Call.operands]); have hcQ : ∀ v, aQ.eval (.const v) = v := fun _ => rfl; generalize aQ.eval = rQ at h1Q h2Q hcQ; clear hgQ; simp [execOp, h1Q, h2Q, hcQ, resolve, invoke, builtin, go_sem, *] <;> rfl)) (by kernel_rfl) ?_
              refine allG_cons (pure_move _ (.inl rfl) rfl) (by kernel_rfl) ?_
              refine allG_cons (pure_move _ (.inl rfl) rfl) (by kernel_rfl) ?_
              refine allG_cons (by (refine pure_quiet fun aQ osQ dQ hgQ => ?_; have h1Q : aQ.eval (.tmp 62) = (.int .i64 h) := hgQ (.tmp 62) (by simp [Op.operands, Call.operands]); have hcQ : ∀ v, aQ.eval (.const v) = v := fun _ => rfl; generalize aQ.eval = rQ at h1Q hcQ; clear hgQ; simp [execOp, h1Q, hcQ, resolve, invoke, builtin, go_sem, *] <;> rfl)) (by kernel_rfl) ?_
              refine allG_cons (pure_move _ (.inl rfl) rfl) (by kernel_rfl) ?_
              refine allG_cons (pure_move _ (.inl rfl) rfl) (by kernel_rfl) ?_
              refine allG_cons (pure_move _ (.inl rfl) rfl) (by kernel_rfl) ?_
              refine allG_cons (pure_move _ (.inl rfl) rfl) (by kernel_rfl) ?_
              refine allG_cons (by (refine pure_quiet fun aQ osQ dQ hgQ => ?_; have h1Q : aQ.eval (.tmp 66) = (.slice (some ⟨blk, off, none⟩) j c1) := hgQ (.tmp 66) (by simp [Op.operands, Call.operands]); have h2Q : aQ.eval (.tmp 67) = (.int .i64 h) := hgQ (.tmp 67) (by simp [Op.operands, Call.operands]); have hcQ : ∀ v, aQ.eval (.const v) = v := fun _ => rfl; generalize aQ.eval = rQ at h1Q h2Q hcQ; clear hgQ; simp [execOp, h1Q, h2Q, hcQ, resolve, invoke, builtin, go_sem, *] <;> rfl)) (by kernel_rfl) ?_
              refine allG_cons (pure_move _ (.inl rfl) rfl) (by kernel_rfl) ?_
              refine allG_cons (pure_call _ _ _ _ err_enters rfl rfl (fun os' d' => CT.out _ ((HIj.out.plus os' d').take _))) (by kernel_rfl) ?_
              refine allG_cons (pure_move _ (.inl rfl) rfl) (by kernel_rfl) ?_
              refine allG_cons (pure_move _ (.inl rfl) rfl) (by kernel_rfl) ?_
              refine allG_cons (by (refine pure_quiet fun aQ osQ dQ hgQ => ?_; have h1Q : aQ.eval (.tmp 71) = (.slice (some ⟨blk, off, none⟩) j c1) := hgQ (.tmp 71) (by simp [Op.operands, Call.operands]); have h2Q : aQ.eval (.tmp 72) = (.int .i64 h) := hgQ (.tmp 72) (by simp [Op.operands, Call.operands]); have hcQ : ∀ v, aQ.eval (.const v) = v := fun _ => rfl; generalize aQ.eval = rQ at h1Q h2Q hcQ; clear hgQ; simp [execOp, h1Q, h2Q, hcQ, resolve, invoke, builtin, go_sem, *] <;> rfl)) (by kernel_rfl) ?_
              refine allG_cons (pure_move _ (.inl rfl) rfl) (by kernel_rfl) ?_
              refine allG_cons (pure_call _ _ _ _ err_enters rfl rfl (fun os' d' => CD.out _ ((HIj.out.plus os' d').drop _))) (by kernel_rfl) ?_
              refine allG_cons (by (refine pure_quiet fun aQ osQ dQ hgQ => ?_; have h1Q : aQ.eval (.tmp 70) = (.int .i64 A1) := hgQ (.tmp 70) (by simp [Op.operands, Call.operands]); have h2Q : aQ.eval (.tmp 75) = (.int .i64 A2) := hgQ (.tmp 75) (by simp [Op.operands, Call.operands]); have hcQ : ∀ v, aQ.eval (.const v) = v := fun _ => rfl; generalize aQ.eval = rQ at h1Q h2Q hcQ; clear hgQ; simp [execOp, h1Q, h2Q, hcQ, resolve, invoke, builtin, go_sem, *] <;> rfl)) (by kernel_rfl) ?_
              refine allG_cons (by (refine pure_quiet fun aQ osQ dQ hgQ => ?_; have h1Q : aQ.eval (.tmp 65) = (.int .i64 E) := hgQ (.tmp 65) (by simp [Op.operands, Call.operands]); have h2Q : aQ.eval (.tmp 76) = (.int .i64 E) := hgQ (.tmp 76) (by simp [Op.operands, Call.operands]); have hcQ : ∀ v, aQ.eval (.const v) = v := fun _ => rfl; generalize aQ.eval = rQ at h1Q h2Q hcQ; clear hgQ; simp [execOp, h1Q, h2Q, hcQ, resolve, invoke, builtin, go_sem, *] <;> rfl)) (by kernel_rfl) ?_
              refine allG_cons (by (refine pure_quiet fun aQ osQ dQ hgQ => ?_; have h1Q : aQ.eval (.tmp 64) = (.bool false) := hgQ (.tmp 64) (by simp [Op.operands, Call.operands]); have h2Q : aQ.eval (.tmp 77) = (.bool true) := hgQ (.tmp 77) (by simp [Op.operands, Call.operands]); have hcQ : ∀ v, aQ.eval (.const v) = v := fun _ => rfl; generalize aQ.eval = rQ at h1Q h2Q hcQ; clear hgQ; simp [execOp, h1Q, h2Q, hcQ, resolve, invoke, builtin, go_sem, *] <;> rfl)) (by kernel_rfl) ?_
              refine allG_cons (by (refine pure_quiet fun aQ osQ dQ hgQ => ?_; have h1Q : aQ.eval (.tmp 61) = (.bool true) := hgQ (.tmp 61) (by simp [Op.operands, Call.operands]); have h2Q : aQ.eval (.tmp 78) = (.bool true) := hgQ (.tmp 78) (by simp [Op.operands, Call.operands]); have hcQ : ∀ v, aQ.eval (.const v) = v := fun _ => rfl; generalize aQ.eval = rQ at h1Q h2Q hcQ; clear hgQ; simp [execOp, h1Q, h2Q, hcQ, resolve, invoke, builtin, go_sem, *] <;> rfl)) (by kernel_rfl) ?_
              exact True.intro
            · intro os' d'
              simp only [putAll, Act.put, List.setIfInBounds_toArray, List.set_cons_succ, List.set_cons_zero]
              refine last_assign (.tmp 79) 2 (.bool true) rfl rfl rfl ?_
              simp only [Act.put, List.setIfInBounds_toArray, List.set_cons_succ, List.set_cons_zero]
              show Exit.then _ _ Exit.normal _ _
              go_wp2
              go_ret
              refine ⟨?_, up_of_below (below_plus (show Below w.heap.size w (drw w3 d).drew from below_drew (below_drw HW3.out d)) _ _)⟩
              rfl
  · go_enter Try.func7, Try.ntmps7
    go_wp2
    go_ret
    exact ⟨rfl, up_of_below (Below.refl _ _)⟩

end Go.Proofs.Ytfonccnpgedgfaa
