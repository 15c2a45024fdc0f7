/-
  The walk of the law on zones that are cut in two. No condition.
-/
import Derived.Test.YtfdpdhinigfpfaaZd2
import Derived.Test.YtfdpdhinigfpfaaZdP
import Derived.Test.YtfdpdhinigfpfaaZvL2
import Derived.Test.YtfdpdhinigfpfaaLastG
namespace Go.Proofs.Ytfdpdhinigfpfaa
set_option linter.unusedSimpArgs false
open Go.RowKit

theorem Ints.drop4 {w : World} {g off c : Nat} {n : Nat} {zs : List Int} (h : Ints w (some ⟨g, off, none⟩) zs) (k : Nat) : Ints w (some ⟨g, off + k, none⟩) (zs.drop k) := by
  rcases h with rfl | ⟨blk, o, e, hc⟩
  · exact .inl (by simp)
  · simp only [Option.some.injEq, Addr.mk.injEq, and_true] at e
    obtain ⟨rfl, rfl⟩ := e
    refine .inr ⟨g, off + k, rfl, fun i hi => ?_⟩
    rw [List.length_drop] at hi
    rw [getD_drop, Nat.add_assoc]
    exact hc (k + i) (by omega)
/-- A block that holds a point. -/
def BoxP (w : World) (B : Nat) (x y : Int) : Prop := w.heap[B]? = some (.cells #[.int .i64 x, .int .i64 y] 36 (0, 0))
theorem BoxP.lt {w : World} {B : Nat} {x y : Int} (h : BoxP w B x y) : B < w.heap.size := (Array.getElem?_eq_some_iff.1 h).1
theorem BoxP.c0 {w : World} {B : Nat} {x y : Int} (h : BoxP w B x y) : w.cell? ⟨B, 0, none⟩ = some (.int .i64 x) := cell_of_row w B 0 _ _ (0, 0) h
theorem BoxP.c1 {w : World} {B : Nat} {x y : Int} (h : BoxP w B x y) : w.cell? ⟨B, 1, none⟩ = some (.int .i64 y) := cell_of_row w B 1 _ _ (0, 0) h
theorem BoxP.plus {w : World} {B : Nat} {x y : Int} (h : BoxP w B x y) (os : Array Obj) (d : Nat) : BoxP (plus w os d) B x y := (plus_block h.lt).trans h
theorem BoxP.below {w w' : World} {B : Nat} {x y : Int} (h : BoxP w B x y) (hb : Below w.heap.size w w') : BoxP w' B x y := (hb.block B h.lt).trans h
theorem BoxP.made (w : World) (x y : Int) : BoxP (w.alloc (.cells #[.int .i64 x, .int .i64 y] 36)) w.heap.size x y := by
  show (w.heap.push _)[w.heap.size]? = _
  exact Array.getElem?_push_size ..
theorem pure_loadP {w0 : World} {A : Act} {o : Oper} (x : Operand) (r : Nat) (x0 x1 : Int) (h : o.op = .load 36 x) (hx : A.eval x = .pointer (some ⟨r, 0, none⟩)) (hb : BoxP w0 r x0 x1) (hv : gd A (o.dst.getD 0) = .agg #[.int .i64 x0, .int .i64 x1]) : PureStep Try.prog w0 A o := by
  refine pure_quiet fun a os d hg => ?_
  have gx := (hg x (by simp [h, Op.operands])).trans hx
  rw [hv]
  have c0 := (hb.plus os d).c0
  have c1 := (hb.plus os d).c1
  generalize a.eval = ρ at gx
  generalize plus w0 os d = W at c0 c1
  simp [execOp, h, gx, Instr.loadAt, go_sem, c0, c1]
theorem lim_enters (args : Array Value) (w : World) : (callFunc 28 args).run Try.prog w = .ok (.enter 28 args) w := (enters_of Try.func28 (by kernel_rfl) rfl) args w
theorem last_assign {o : Oper} {a : Act} {w : World} {K : Act → World → Prop} {Q : Exit → Act → World → Prop} (x : Operand) (d : Nat) (v : Value) (h : o.op = .assign x) (hd : o.dst = some d) (hv : a.eval x = v) (hk : K (a.put (some d) v) w) : o.wp Try.prog a w K Q := by
  subst hv
  rw [← hd] at hk
  have hrun : (execOp a.eval o).run Try.prog w = .ok (.value (a.eval x)) w := by
    generalize a.eval = ρ
    simp [execOp, h, go_sem]
  unfold Oper.wp
  rw [hrun]
  exact hk

set_option maxHeartbeats 2000000 in
theorem lawZonesJoin_any (a : Option Addr) (n c : Nat) (w : World) (hb : Bytes w w.heap.size a n) (hnc : n ≤ c) (hcm : c ≤ maxLen) :
    Calls Try.prog 10 #[.slice a n c] w fun e w' => e = .returned (.bool true) ∧ Up w w' := by
  have hmm : c ≤ 9223372036854775807 := by unfold maxLen at hcm; omega
  by_cases hn : n ≤ 1048576
  · go_enter Try.func10, Try.ntmps10
    go_wp2_with (go_at_call 29; refine (drawSpeedLimit_any _ _ _ _ hb hnc hcm).mono ?_; rintro e w1 ⟨m, zs, g, c1, x, y, hxy, rfl, hD⟩)
    have hz := hD.2.1.len
    obtain ⟨hmc, hc1⟩ := hD.short
    have hm7 := hD.1
    have HP := Lib.hid (BoxP.made w1 x y)
    have hb1 : Below w1.heap.size w1 (w1.alloc (.cells #[.int .i64 x, .int .i64 y] 36)) := (Below.refl _ _).alloc (Nat.le_refl _) _
    have HI := Lib.hid (hD.2.1.ints.2.below hb1)
    have HW := Lib.hid (hD.2.2.trans (hb1.mono hD.2.2.size))
    have HZ := Lib.hid hz
    have hP1 := hb1.size
    clear hb1 hD hz hb hxy
    generalize w1.alloc (.cells #[.int .i64 x, .int .i64 y] 36) = W1 at HP HI HW hP1 ⊢
    generalize w1.heap.size = P at HP hP1 ⊢
    have C1 := Lib.hid (fun W h => limit_any (some ⟨g, 0, none⟩) m c1 zs x y W HZ.out h (by omega))
    have C2 := Lib.hid (fun W h => sLimit_any (some ⟨g, 0, none⟩) m c1 zs x y W HZ.out h (by omega))
    obtain ⟨h, hh⟩ : ∃ h, h = m / 2 := ⟨_, rfl⟩
    have e1 : (m : Int).tdiv 2 = (h : Int) := by rw [hh, Int.tdiv_eq_ediv_of_nonneg (by omega)]; simp
    have hhm : h ≤ m := by omega
    have hhz : ¬ m = 0 → h < m := by omega
    have hh0 : m = 0 → h = 0 := by omega
    clear hh
    have cT := Lib.hid (fun W hi => limit_any (some ⟨g, 0, none⟩) h c1 (zs.take (h * 4)) x y W (by have := HZ.out; rw [List.length_take]; omega) hi (by omega))
    have cD := Lib.hid (fun W hi => limit_any (some ⟨g, h * 4, none⟩) (m - h) (c1 - h) (zs.drop (h * 4)) x y W (by have := HZ.out; rw [List.length_drop]; omega) hi (by omega))
    have hjoin := fun hB => lim_join (zs := zs) (u := x) (v := y) (n := m) (h := h) hB hhm
    have hneg : ¬ limB m zs x y = true → limF m zs x y = -1 := fun h => by rw [limF, if_neg h]
    have hpos : limB m zs x y = true → 0 ≤ limF m zs x y := fun h => by
      rw [limF, if_pos h]
      unfold limB at h
      rw [Bool.and_eq_true] at h
      exact (limN_bd (zonesB_t.1 h.1).2).1
    generalize limF m zs x y = V at C1 C2 hjoin hneg hpos
    generalize limF h (zs.take (h * 4)) x y = L1 at cT hjoin
    generalize limF (m - h) (zs.drop (h * 4)) x y = L2 at cD hjoin
    have HJ := Lib.hid hjoin
    clear hjoin
    refine (C1.out _ HI.out).mono ?_
    rintro e w2 ⟨rfl, hU⟩
    have HI2 := Lib.hid (HI.out.below hU.below)
    have HP2 := Lib.hid (HP.out.below hU.below)
    have HW2 := Lib.hid (HW.out.trans (hU.below.mono HW.out.size))
    have d0 := HP2.out.c0
    have d1 := HP2.out.c1
    clear hU HI HP HW hP1
    go_wp2_with fail
    refine (C2.out _ HI2.out).mono ?_
    rintro e w3 ⟨rfl, hU⟩
    have HI3 := Lib.hid (HI2.out.below hU.below)
    have HP3 := Lib.hid (HP2.out.below hU.below)
    have HW3 := Lib.hid (HW2.out.trans (hU.below.mono HW2.out.size))
    clear hU HI2 HP2 HW2 d0 d1 C1 C2
    by_cases hB : limB m zs x y = true
    · have hV := hpos hB
      have hV' : ¬ V < 0 := by omega
      have hmin : min L1 L2 = V := (HJ.out hB).symm
      clear hneg hpos
      go_wp2
      have hl1 : (h : Int) ≤ (c1 : Int) := by omega
      have hl2 : (h : Int) ≤ (m : Int) := by omega
      have hl3 : (m : Int) ≤ (c1 : Int) := by omega
      have hdrop : (if c1 = h then some (⟨g, 0, none⟩ : Addr) else some ⟨g, h * 4, none⟩) = some ⟨g, h * 4, none⟩ := by
        split
        · rename_i he
          have : h = 0 := by omega
          subst this; rfl
        · rfl
      have hmin2 : (if L2 < L1 then L2 else L1) = V := by rw [← hmin]; split <;> omega
      clear hmin
      refine wp_region_any (by kernel_rfl) ?_
      refine region_last [(29, .int .i64 V), (30, .slice (some ⟨g, 0, none⟩) m c1), (31, .int .i64 h), (32, .slice (some ⟨g, 0, none⟩) h c1), (33, .agg #[.int .i64 x, .int .i64 y]), (34, .int .i64 L1), (35, .slice (some ⟨g, 0, none⟩) m c1), (36, .int .i64 h), (37, .slice (some ⟨g, h * 4, none⟩) (m - h) (c1 - h)), (38, .agg #[.int .i64 x, .int .i64 y]), (39, .int .i64 L2), (40, .int .i64 V), (41, .bool true)] _ _ (by kernel_rfl) (by kernel_rfl) ?_ _ rfl ?_
      · simp only [putAll, Act.put, List.setIfInBounds_toArray, List.set_cons_succ, List.set_cons_zero]
        refine allPure_cons (pure_move _ (.inl rfl) rfl) ?_
        refine allPure_cons (pure_move _ (.inl rfl) rfl) ?_
        refine allPure_cons (pure_move _ (.inl rfl) rfl) ?_
        refine allPure_cons (by (refine pure_quiet fun aQ osQ dQ hgQ => ?_; have h1Q : aQ.eval (.tmp 30) = (.slice (some ⟨g, 0, none⟩) m c1) := hgQ (.tmp 30) (by simp [Op.operands, Call.operands]); have h2Q : aQ.eval (.tmp 31) = (.int .i64 h) := hgQ (.tmp 31) (by simp [Op.operands, Call.operands]); have hcQ : ∀ v, aQ.eval (.const v) = v := fun _ => rfl; generalize aQ.eval = rQ at h1Q h2Q hcQ; clear hgQ; simp [execOp, h1Q, h2Q, hcQ, resolve, invoke, builtin, go_sem, *] <;> rfl)) ?_
        refine allPure_cons (pure_loadP _ P x y rfl rfl HP3.out rfl) ?_
        refine allPure_cons (pure_call _ _ _ _ lim_enters rfl rfl (fun os' d' => cT.out _ ((HI3.out.below (below_plus (Below.refl _ _) os' d')).take _))) ?_
        refine allPure_cons (pure_move _ (.inl rfl) rfl) ?_
        refine allPure_cons (pure_move _ (.inl rfl) rfl) ?_
        refine allPure_cons (by (refine pure_quiet fun aQ osQ dQ hgQ => ?_; have h1Q : aQ.eval (.tmp 35) = (.slice (some ⟨g, 0, none⟩) m c1) := hgQ (.tmp 35) (by simp [Op.operands, Call.operands]); have h2Q : aQ.eval (.tmp 36) = (.int .i64 h) := hgQ (.tmp 36) (by simp [Op.operands, Call.operands]); have hcQ : ∀ v, aQ.eval (.const v) = v := fun _ => rfl; generalize aQ.eval = rQ at h1Q h2Q hcQ; clear hgQ; simp [execOp, h1Q, h2Q, hcQ, resolve, invoke, builtin, go_sem, *] <;> rfl)) ?_
        refine allPure_cons (pure_loadP _ P x y rfl rfl HP3.out rfl) ?_
        refine allPure_cons (pure_call _ _ _ _ lim_enters rfl rfl (fun os' d' => cD.out _ (by have := Ints.drop4 (n := m) (c := c1) (HI3.out.below (below_plus (Below.refl _ _) os' d')) (h * 4); rwa [Nat.zero_add] at this))) ?_
        refine allPure_cons (by (refine pure_quiet fun aQ osQ dQ hgQ => ?_; have h1Q : aQ.eval (.tmp 34) = (.int .i64 L1) := hgQ (.tmp 34) (by simp [Op.operands, Call.operands]); have h2Q : aQ.eval (.tmp 39) = (.int .i64 L2) := hgQ (.tmp 39) (by simp [Op.operands, Call.operands]); have hcQ : ∀ v, aQ.eval (.const v) = v := fun _ => rfl; generalize aQ.eval = rQ at h1Q h2Q hcQ; clear hgQ; simp [execOp, h1Q, h2Q, hcQ, resolve, invoke, builtin, go_sem, *] <;> rfl)) ?_
        refine allPure_cons (by (refine pure_quiet fun aQ osQ dQ hgQ => ?_; have h1Q : aQ.eval (.tmp 29) = (.int .i64 V) := hgQ (.tmp 29) (by simp [Op.operands, Call.operands]); have h2Q : aQ.eval (.tmp 40) = (.int .i64 V) := hgQ (.tmp 40) (by simp [Op.operands, Call.operands]); have hcQ : ∀ v, aQ.eval (.const v) = v := fun _ => rfl; generalize aQ.eval = rQ at h1Q h2Q hcQ; clear hgQ; simp [execOp, h1Q, h2Q, hcQ, resolve, invoke, builtin, go_sem, *] <;> rfl)) ?_
        exact True.intro
      · intro os' d'
        simp only [putAll, Act.put, List.setIfInBounds_toArray, List.set_cons_succ, List.set_cons_zero]
        refine last_assign (.tmp 41) 2 (.bool true) rfl rfl rfl ?_
        simp only [Act.put, List.setIfInBounds_toArray, List.set_cons_succ, List.set_cons_zero]
        show Exit.then _ _ Exit.normal _ _
        go_wp2
        go_ret
        exact ⟨rfl, up_of_below (below_plus HW3.out _ _)⟩
    · obtain rfl := hneg hB
      clear hpos
      go_wp2_with (first | (go_at_call 18; refine (alive_any _).mono ?_; rintro e w' ⟨rfl, rfl⟩))
      go_ret
      exact ⟨rfl, up_of_below HW3.out⟩
  · go_enter Try.func10, Try.ntmps10
    go_wp2
    go_ret
    exact ⟨rfl, up_of_below (Below.refl _ _)⟩

end Go.Proofs.Ytfdpdhinigfpfaa
