/-
  The contract of a point's rotation by quarter turns. Conditions: those that each theorem states.
-/
import Derived.Test.YtnanipehcikcjaaDoorRoB
namespace Go.Proofs.YtnanipehcikcjaaDoor
set_option linter.unusedSimpArgs false
open Go.RowKit

theorem CosT.lt {w : World} (h : CosT w) : 1 < w.heap.size := World.block_lt_of_cell? _ ⟨1, 0, none⟩ h.1
theorem CosT.below {w w' : World} (h : CosT w) (hb : Below w.heap.size w w') : CosT w' := h.blocks (hb.block 1 h.lt)

set_option maxHeartbeats 400000 in
theorem cosine_any (d r S : Int) (w : World) (h0 : 0 ≤ d) (h1 : d ≤ 1000) (hr : d % 360 = r) (HS : Calls Tryd.prog 20 #[.int .i64 (r + 90)] w fun e w' => e = .returned (.int .i64 S) ∧ w = w') :
    Calls Tryd.prog 21 #[.int .i64 d] w fun e w' => e = .returned (.int .i64 S) ∧ w = w' := by
  have hb : 0 ≤ r ∧ r < 360 := by omega
  obtain ⟨hb0, hb1⟩ := hb
  go_enter Tryd.func21, Tryd.ntmps21
  go_wp2_with (first | (go_at_call 19; refine (degrees_any d r _ h0 (by omega) hr).mono ?_; rintro e w' ⟨rfl, rfl⟩) | (go_at_call 20; refine HS.mono ?_; rintro e w' ⟨rfl, rfl⟩))
  go_ret
  exact ⟨rfl, rfl⟩

set_option maxHeartbeats 400000 in
theorem nearest_any (a z : Int) (w : World) (h : a = 4096 * z) (h1 : -100000 ≤ z) (h2 : z ≤ 100000) :
    Calls Tryd.prog 22 #[.int .i64 a, .int .i64 4096] w fun e w' => e = .returned (.int .i64 z) ∧ w = w' := by
  subst h
  go_enter Tryd.func22, Tryd.ntmps22
  go_wp2_with (go_at_call 28; refine (floor_any _ _ _ (by omega) (by omega) (by omega) (by omega)).mono ?_; rintro e w' ⟨rfl, rfl⟩)
  go_ret
  exact ⟨ret_i64 (by omega), rfl⟩

theorem near_enters (args : Array Value) (w : World) : (callFunc 22 args).run Tryd.prog w = .ok (.enter 22 args) w := (enters_of Tryd.func22 (by kernel_rfl) rfl) args w

set_option maxRecDepth 100000 in
set_option maxHeartbeats 4000000 in
theorem rotate_any (x y S C z1 z2 d P1 P2 P3 P4 : Int) (w : World) (hC : CosT w) (hp : ptB x y = true) (HS : ∀ W, CosT W → Calls Tryd.prog 20 #[.int .i64 d] W fun e w' => e = .returned (.int .i64 S) ∧ W = w') (HC : ∀ W, CosT W → Calls Tryd.prog 21 #[.int .i64 d] W fun e w' => e = .returned (.int .i64 C) ∧ W = w')
    (e1 : IntKind.i64.wrap (x * C) = P1) (e2 : IntKind.i64.wrap (y * S) = P2) (e3 : IntKind.i64.wrap (x * S) = P3) (e4 : IntKind.i64.wrap (y * C) = P4) (h1 : P1 - P2 = 4096 * z1) (h2 : P3 + P4 = 4096 * z2) (g1 : -100000 ≤ z1) (g2 : z1 ≤ 100000) (g3 : -100000 ≤ z2) (g4 : z2 ≤ 100000) :
    Calls Tryd.prog 9 #[.agg #[.int .i64 x, .int .i64 y], .int .i64 d] w fun e w' => e = .returned (.agg #[.int .i64 z1, .int .i64 z2]) ∧ Up w w' := by
  have H1 := Lib.hid h1
  have H2 := Lib.hid h2
  have w1 : IntKind.i64.wrap (P1 - P2) = P1 - P2 := IntWalk.i64_in _ (by omega)
  have w2 : IntKind.i64.wrap (P3 + P4) = P3 + P4 := IntWalk.i64_in _ (by omega)
  have HC0 := Lib.hid hC
  have HP := Lib.hid (fun W => pointValid_any x y W)
  rw [hp] at HP
  have HS' := Lib.hid HS
  have HCo := Lib.hid HC
  clear h1 h2 hC HS HC
  go_enter Tryd.func9, Tryd.ntmps9
  go_wp2_with (first | (go_at_call 14; refine (HP.out _).mono ?_; rintro e w1 ⟨rfl, os, d, rfl⟩) | (go_at_call 20; refine (HS'.out _ (HC0.out.below (by repeat (first | with_reducible exact Below.refl _ _ | with_reducible apply below_alloc | with_reducible apply below_drw | with_reducible apply below_drew | with_reducible apply below_drewN | with_reducible apply below_plus | with_reducible apply below_set | (simp; done))))).mono ?_; rintro e w' ⟨rfl, rfl⟩) | (go_at_call 21; refine (HCo.out _ (HC0.out.below (by repeat (first | with_reducible exact Below.refl _ _ | with_reducible apply below_alloc | with_reducible apply below_drw | with_reducible apply below_drew | with_reducible apply below_drewN | with_reducible apply below_plus | with_reducible apply below_set | (simp; done))))).mono ?_; rintro e w' ⟨rfl, rfl⟩))
  have N1 : Hid (∀ W, Calls Tryd.prog 22 #[.int .i64 (P1 - P2), .int .i64 4096] W fun e w' => e = .returned (.int .i64 z1) ∧ Up W w') := fun W => (nearest_any (P1 - P2) z1 W H1.out g1 g2).mono fun _ _ h => ⟨h.1, h.2 ▸ up_of_below (Below.refl _ _)⟩
  have N2 : Hid (∀ W, Calls Tryd.prog 22 #[.int .i64 (P3 + P4), .int .i64 4096] W fun e w' => e = .returned (.int .i64 z2) ∧ Up W w') := fun W => (nearest_any (P3 + P4) z2 W H2.out g3 g4).mono fun _ _ h => ⟨h.1, h.2 ▸ up_of_below (Below.refl _ _)⟩
  refine wp_forget (fun W => Hid (BoxP W w.heap.size x y) ∧ Hid (BoxP W (w.heap.size + 1) 0 0) ∧ Hid (W.frozen? ⟨w.heap.size + 1, 0, none⟩ = false) ∧ Hid (W.frozen? ⟨w.heap.size + 1, 1, none⟩ = false) ∧ Hid (Below w.heap.size w W)) ⟨⟨by simp [go_sem], by simp [go_sem], by simp [go_sem]⟩, ⟨by simp [go_sem], by simp [go_sem], by simp [go_sem]⟩, show _ = _ by simp [go_sem], show _ = _ by simp [go_sem], show Below _ _ _ by repeat (first | with_reducible exact Below.refl _ _ | with_reducible apply below_alloc | with_reducible apply below_drw | with_reducible apply below_drew | with_reducible apply below_drewN | with_reducible apply below_plus | with_reducible apply below_set | (simp; done))⟩ ?_
  rintro W ⟨B2, B4, F0, F1, HW⟩
  have hr4 : w.heap.size ≤ w.heap.size + 1 := by omega
  generalize w.heap.size + 1 = r4 at B4 F0 F1 hr4 ⊢
  have lt4 := B4.out.lt
  obtain ⟨r2, hr2⟩ : ∃ r2, r2 = w.heap.size := ⟨_, rfl⟩
  rw [← hr2] at B2 ⊢
  clear hr2
  refine wp_region_any (by kernel_rfl) ?_
  refine region_lastG [(15, .pointer (some ⟨r2, 0, none⟩)), (16, .int .i64 x), (17, .int .i64 C), (18, .int .i64 P1), (19, .pointer (some ⟨r2, 1, none⟩)), (20, .int .i64 y), (21, .int .i64 S), (22, .int .i64 P2), (23, .int .i64 (P1 - P2)), (24, .int .i64 z1), (25, .pointer (some ⟨r2, 0, none⟩)), (26, .int .i64 x), (27, .int .i64 S), (28, .int .i64 P3), (29, .pointer (some ⟨r2, 1, none⟩)), (30, .int .i64 y), (31, .int .i64 C), (32, .int .i64 P4), (33, .int .i64 (P3 + P4)), (34, .int .i64 z2), (35, .agg #[.int .i64 z1, .int .i64 z2])] [] _ _ (by kernel_rfl) (by kernel_rfl) ?_ ?_ _ rfl ?_
  · simp only [putAll, Act.put, List.setIfInBounds_toArray, List.set_cons_succ, List.set_cons_zero]
    intro gQ hgQ
    exact absurd hgQ (List.not_mem_nil)
  · simp only [putAll, Act.put, List.setIfInBounds_toArray, List.set_cons_succ, List.set_cons_zero]
    refine allG_cons (by refine pure_quiet fun aQ osQ dQ hgQ => ?_; have h1Q : aQ.eval (.tmp 2) = .pointer (some ⟨r2, 0, none⟩) := hgQ (.tmp 2) (by simp [Op.operands, Call.operands]); have hcQ : ∀ v, aQ.eval (.const v) = v := fun _ => rfl; generalize aQ.eval = rQ at h1Q hcQ; clear hgQ; simp [execOp, h1Q, hcQ, resolve, invoke, builtin, go_sem, *] <;> rfl) (by kernel_rfl) ?_
    refine allG_cons (pure_load1 _ r2 0 _ rfl rfl B2.out.lt B2.out.c0 rfl) (by kernel_rfl) ?_
    refine allG_cons (pure_move _ (.inl rfl) rfl) (by kernel_rfl) ?_
    refine allG_cons (by refine pure_quiet fun aQ osQ dQ hgQ => ?_; have h1Q : aQ.eval (.tmp 16) = .int .i64 x := hgQ (.tmp 16) (by simp [Op.operands, Call.operands]); have h2Q : aQ.eval (.tmp 17) = .int .i64 C := hgQ (.tmp 17) (by simp [Op.operands, Call.operands]); have hcQ : ∀ v, aQ.eval (.const v) = v := fun _ => rfl; generalize aQ.eval = rQ at h1Q h2Q hcQ; clear hgQ; simp [execOp, h1Q, h2Q, hcQ, resolve, invoke, builtin, go_sem, *] <;> rfl) (by kernel_rfl) ?_
    refine allG_cons (by refine pure_quiet fun aQ osQ dQ hgQ => ?_; have h1Q : aQ.eval (.tmp 2) = .pointer (some ⟨r2, 0, none⟩) := hgQ (.tmp 2) (by simp [Op.operands, Call.operands]); have hcQ : ∀ v, aQ.eval (.const v) = v := fun _ => rfl; generalize aQ.eval = rQ at h1Q hcQ; clear hgQ; simp [execOp, h1Q, hcQ, resolve, invoke, builtin, go_sem, *] <;> rfl) (by kernel_rfl) ?_
    refine allG_cons (pure_load1 _ r2 1 _ rfl rfl B2.out.lt B2.out.c1 rfl) (by kernel_rfl) ?_
    refine allG_cons (pure_move _ (.inl rfl) rfl) (by kernel_rfl) ?_
    refine allG_cons (by refine pure_quiet fun aQ osQ dQ hgQ => ?_; have h1Q : aQ.eval (.tmp 20) = .int .i64 y := hgQ (.tmp 20) (by simp [Op.operands, Call.operands]); have h2Q : aQ.eval (.tmp 21) = .int .i64 S := hgQ (.tmp 21) (by simp [Op.operands, Call.operands]); have hcQ : ∀ v, aQ.eval (.const v) = v := fun _ => rfl; generalize aQ.eval = rQ at h1Q h2Q hcQ; clear hgQ; simp [execOp, h1Q, h2Q, hcQ, resolve, invoke, builtin, go_sem, *] <;> rfl) (by kernel_rfl) ?_
    refine allG_cons (by refine pure_quiet fun aQ osQ dQ hgQ => ?_; have h1Q : aQ.eval (.tmp 18) = .int .i64 P1 := hgQ (.tmp 18) (by simp [Op.operands, Call.operands]); have h2Q : aQ.eval (.tmp 22) = .int .i64 P2 := hgQ (.tmp 22) (by simp [Op.operands, Call.operands]); have hcQ : ∀ v, aQ.eval (.const v) = v := fun _ => rfl; generalize aQ.eval = rQ at h1Q h2Q hcQ; clear hgQ; simp [execOp, h1Q, h2Q, hcQ, resolve, invoke, builtin, go_sem, *] <;> rfl) (by kernel_rfl) ?_
    refine allG_cons (pure_call _ _ _ _ near_enters rfl rfl (fun os d => N1.out _)) (by kernel_rfl) ?_
    refine allG_cons (by refine pure_quiet fun aQ osQ dQ hgQ => ?_; have h1Q : aQ.eval (.tmp 2) = .pointer (some ⟨r2, 0, none⟩) := hgQ (.tmp 2) (by simp [Op.operands, Call.operands]); have hcQ : ∀ v, aQ.eval (.const v) = v := fun _ => rfl; generalize aQ.eval = rQ at h1Q hcQ; clear hgQ; simp [execOp, h1Q, hcQ, resolve, invoke, builtin, go_sem, *] <;> rfl) (by kernel_rfl) ?_
    refine allG_cons (pure_load1 _ r2 0 _ rfl rfl B2.out.lt B2.out.c0 rfl) (by kernel_rfl) ?_
    refine allG_cons (pure_move _ (.inl rfl) rfl) (by kernel_rfl) ?_
    refine allG_cons (by refine pure_quiet fun aQ osQ dQ hgQ => ?_; have h1Q : aQ.eval (.tmp 26) = .int .i64 x := hgQ (.tmp 26) (by simp [Op.operands, Call.operands]); have h2Q : aQ.eval (.tmp 27) = .int .i64 S := hgQ (.tmp 27) (by simp [Op.operands, Call.operands]); have hcQ : ∀ v, aQ.eval (.const v) = v := fun _ => rfl; generalize aQ.eval = rQ at h1Q h2Q hcQ; clear hgQ; simp [execOp, h1Q, h2Q, hcQ, resolve, invoke, builtin, go_sem, *] <;> rfl) (by kernel_rfl) ?_
    refine allG_cons (by refine pure_quiet fun aQ osQ dQ hgQ => ?_; have h1Q : aQ.eval (.tmp 2) = .pointer (some ⟨r2, 0, none⟩) := hgQ (.tmp 2) (by simp [Op.operands, Call.operands]); have hcQ : ∀ v, aQ.eval (.const v) = v := fun _ => rfl; generalize aQ.eval = rQ at h1Q hcQ; clear hgQ; simp [execOp, h1Q, hcQ, resolve, invoke, builtin, go_sem, *] <;> rfl) (by kernel_rfl) ?_
    refine allG_cons (pure_load1 _ r2 1 _ rfl rfl B2.out.lt B2.out.c1 rfl) (by kernel_rfl) ?_
    refine allG_cons (pure_move _ (.inl rfl) rfl) (by kernel_rfl) ?_
    refine allG_cons (by refine pure_quiet fun aQ osQ dQ hgQ => ?_; have h1Q : aQ.eval (.tmp 30) = .int .i64 y := hgQ (.tmp 30) (by simp [Op.operands, Call.operands]); have h2Q : aQ.eval (.tmp 31) = .int .i64 C := hgQ (.tmp 31) (by simp [Op.operands, Call.operands]); have hcQ : ∀ v, aQ.eval (.const v) = v := fun _ => rfl; generalize aQ.eval = rQ at h1Q h2Q hcQ; clear hgQ; simp [execOp, h1Q, h2Q, hcQ, resolve, invoke, builtin, go_sem, *] <;> rfl) (by kernel_rfl) ?_
    refine allG_cons (by refine pure_quiet fun aQ osQ dQ hgQ => ?_; have h1Q : aQ.eval (.tmp 28) = .int .i64 P3 := hgQ (.tmp 28) (by simp [Op.operands, Call.operands]); have h2Q : aQ.eval (.tmp 32) = .int .i64 P4 := hgQ (.tmp 32) (by simp [Op.operands, Call.operands]); have hcQ : ∀ v, aQ.eval (.const v) = v := fun _ => rfl; generalize aQ.eval = rQ at h1Q h2Q hcQ; clear hgQ; simp [execOp, h1Q, h2Q, hcQ, resolve, invoke, builtin, go_sem, *] <;> rfl) (by kernel_rfl) ?_
    refine allG_cons (pure_call _ _ _ _ near_enters rfl rfl (fun os d => N2.out _)) (by kernel_rfl) ?_
    refine allG_cons (by refine pure_quiet fun aQ osQ dQ hgQ => ?_; have h1Q : aQ.eval (.tmp 24) = .int .i64 z1 := hgQ (.tmp 24) (by simp [Op.operands, Call.operands]); have h2Q : aQ.eval (.tmp 34) = .int .i64 z2 := hgQ (.tmp 34) (by simp [Op.operands, Call.operands]); have hcQ : ∀ v, aQ.eval (.const v) = v := fun _ => rfl; generalize aQ.eval = rQ at h1Q h2Q hcQ; clear hgQ; simp [execOp, h1Q, h2Q, hcQ, resolve, invoke, builtin, go_sem, *] <;> rfl) (by kernel_rfl) ?_
    exact True.intro
  · intro osL dL
    simp only [putAll, Act.put, List.setIfInBounds_toArray, List.set_cons_succ, List.set_cons_zero]
    refine last_store (.tmp 4) (.tmp 35) r4 z1 z2 _ _ rfl rfl rfl rfl ((plus_cell r4 0 lt4).trans B4.out.c0) ((plus_cell r4 1 lt4).trans B4.out.c1) ((plus_frozen r4 0 lt4).trans F0.out) ((plus_frozen r4 1 lt4).trans F1.out) ?_
    show Exit.then _ _ Exit.normal _ (((plus W osL dL).setCell ⟨r4, 0, none⟩ (.int .i64 z1)).setCell ⟨r4, 1, none⟩ (.int .i64 z2))
    have k1 : (((plus W osL dL).setCell ⟨r4, 0, none⟩ (.int .i64 z1)).setCell ⟨r4, 1, none⟩ (.int .i64 z2)).cell? ⟨r4, 1, none⟩ = some (.int .i64 z2) := World.cell?_setCell_same _ _ _ ((World.cell?_setCell_other _ _ _ _ (by simp)).trans ((plus_cell r4 1 lt4).trans B4.out.c1))
    have k0 : (((plus W osL dL).setCell ⟨r4, 0, none⟩ (.int .i64 z1)).setCell ⟨r4, 1, none⟩ (.int .i64 z2)).cell? ⟨r4, 0, none⟩ = some (.int .i64 z1) := (World.cell?_setCell_other _ _ _ _ (by simp)).trans (World.cell?_setCell_same _ _ _ ((plus_cell r4 0 lt4).trans B4.out.c0))
    have HW2 := Lib.hid (((below_plus HW.out osL dL).setCell (p := ⟨r4, 0, none⟩) hr4 (.int .i64 z1)).setCell (p := ⟨r4, 1, none⟩) hr4 (.int .i64 z2))
    generalize ((plus W osL dL).setCell ⟨r4, 0, none⟩ (.int .i64 z1)).setCell ⟨r4, 1, none⟩ (.int .i64 z2) = W2 at k0 k1 HW2 ⊢
    go_wp2
    refine bodyPost_ret (v := .agg #[.int .i64 z1, .int .i64 z2]) (by simp [results, Tryd.results9, go_sem, k0, k1]) rfl ⟨rfl, up_of_below HW2.out⟩

end Go.Proofs.YtnanipehcikcjaaDoor
