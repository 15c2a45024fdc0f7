/-
  Contracts of the functions that draw lists of pairs out of a code. Conditions: those that each theorem states.
-/
import Derived.Test.YtfonccnpgedgfaaPrD
import Derived.Test.YtfonccnpgedgfaaSh3
import Derived.Test.YtfonccnpgedgfaaPf
namespace Go.Proofs.Ytfonccnpgedgfaa
open Go.RowKit

/-- Pairs drawn out of a code. -/
def Drawn2 (w : World) (v : Value) (n : Nat) (zs : List Int) (w' : World) : Prop := PrD n zs ∧ OwnG 32 2 w' w.heap.size v n zs ∧ Below w.heap.size w w'
theorem gone_below {w0 w w' : World} {b : Nat} {p k : Int} (h : Below w0.heap.size w0 w) (hb : w0.heap.size ≤ b) (hg : Gone w b p k w') : Below w0.heap.size w0 w' := by
  obtain ⟨p', _, _, os, d, rfl⟩ := hg
  exact below_plus (h.setCell (p := ⟨b, 1, none⟩) hb _) _ _

set_option maxHeartbeats 2000000 in
theorem drawPairsValid_any (a : Option Addr) (n c : Nat) (w : World) (hb : Bytes w w.heap.size a n) (hnc : n ≤ c) (hcm : c ≤ maxLen) :
    Calls Try.prog 18 #[.slice a n c] w fun e w' => ∃ (m : Nat) (zs : List Int) (a' : Option Addr) (c' : Nat), e = .returned (.slice a' m c') ∧ Drawn2 w (.slice a' m c') m zs w' := by
  go_enter Try.func18, Try.ntmps18
  go_wp2_with (first | (go_at_call 42; apply Calls.mono; (focus (apply open_any; (focus (apply Bytes.later hb; repeat (first | with_reducible exact Below.refl _ _ | with_reducible apply below_alloc | with_reducible apply below_drw | with_reducible apply below_drew | with_reducible apply below_drewN | with_reducible apply below_plus | with_reducible apply below_set | (simp; done)))); exact hnc; exact hcm)); rintro e w1 ⟨n1, c1, hs1, hB1, rfl, rfl⟩) | (go_at_call 41; apply Calls.mono; (focus (apply l20Pairs_any; (focus (repeat (first | with_reducible exact hr | (with_reducible apply Rd.base_at hs1 hB1; simp; done) | with_reducible apply Rd.plus | with_reducible apply Rd.drew | with_reducible apply Rd.drewN | with_reducible apply Rd.drw | with_reducible apply Rd.alloc | with_reducible apply Rd.set))); all_goals omega)); rintro e w1 ⟨m, zs, a', c', hP, rfl, hO, hG⟩))
  go_ret
  exact ⟨m, zs, a', c', rfl, hP, hO.more (by simp), gone_below (below_alloc (Below.refl _ _) _) (by simp) hG⟩

set_option maxHeartbeats 2000000 in
theorem drawFitOffset_any (a : Option Addr) (n c : Nat) (w : World) (hb : Bytes w w.heap.size a n) (hnc : n ≤ c) (hcm : c ≤ maxLen) :
    Calls Try.prog 27 #[.slice a n c] w fun e w' => ∃ (m : Nat) (zs : List Int) (a' : Option Addr) (c' : Nat), e = .returned (.slice a' m c') ∧ Drawn2 w (.slice a' m c') m zs w' := by
  go_enter Try.func27, Try.ntmps27
  go_wp2_with (first | (go_at_call 42; apply Calls.mono; (focus (apply open_any; (focus (apply Bytes.later hb; repeat (first | with_reducible exact Below.refl _ _ | with_reducible apply below_alloc | with_reducible apply below_drw | with_reducible apply below_drew | with_reducible apply below_drewN | with_reducible apply below_plus | with_reducible apply below_set | (simp; done)))); exact hnc; exact hcm)); rintro e w1 ⟨n1, c1, hs1, hB1, rfl, rfl⟩) | (go_at_call 41; apply Calls.mono; (focus (apply l20Pairs_any; (focus (repeat (first | with_reducible exact hr | (with_reducible apply Rd.base_at hs1 hB1; simp; done) | with_reducible apply Rd.plus | with_reducible apply Rd.drew | with_reducible apply Rd.drewN | with_reducible apply Rd.drw | with_reducible apply Rd.alloc | with_reducible apply Rd.set))); all_goals omega)); rintro e w1 ⟨m, zs, a', c', hP, rfl, hO, hG⟩))
  go_ret
  exact ⟨m, zs, a', c', rfl, hP, hO.more (by simp), gone_below (below_alloc (Below.refl _ _) _) (by simp) hG⟩

theorem sfit_enters (args : Array Value) (w : World) : (callFunc 21 args).run Try.prog w = .ok (.enter 21 args) w := (enters_of Try.func21 (by kernel_rfl) rfl) args w
theorem fitF_bd (zs : List Int) (n : Nat) : -2000 ≤ fitF zs n ∧ fitF zs n ≤ 2000 := by
  unfold fitF
  split
  · rename_i h
    have h1 := pairsB_t.1 h
    exact fitG_bd (by omega) (fun j hj => pD_bd (h1.2 j hj))
  · omega
theorem Drawn2.off {w w' : World} {v : Value} {n : Nat} {zs : List Int} (h : Drawn2 w v n zs w') : ∃ a c, v = .slice a n c ∧ n ≤ c ∧ c ≤ maxLen ∧ Ints w' a zs := h.2.1.form

set_option maxHeartbeats 4000000 in
theorem drawOffsetError_any (a : Option Addr) (n c : Nat) (w : World) (hb : Bytes w w.heap.size a n) (hnc : n ≤ c) (hcm : c ≤ maxLen) :
    Calls Try.prog 23 #[.slice a n c] w fun e w' => ∃ (m : Nat) (zs : List Int) (a' : Option Addr) (c' : Nat) (o : Int), (-2000 ≤ o ∧ o ≤ 2001) ∧ e = .returned (.tuple #[.slice a' m c', .int .i64 o]) ∧ Drawn2 w (.slice a' m c') m zs w' := by
  go_enter Try.func23, Try.ntmps23
  go_wp2_with (first | (go_at_call 42; apply Calls.mono; (focus (apply open_any; (focus (apply Bytes.later hb; repeat (first | with_reducible exact Below.refl _ _ | with_reducible apply below_alloc | with_reducible apply below_drw | with_reducible apply below_drew | with_reducible apply below_drewN | with_reducible apply below_plus | with_reducible apply below_set | (simp; done)))); exact hnc; exact hcm)); rintro e w1 ⟨n1, c1, hs1, hB1, rfl, rfl⟩) | (go_at_call 41; apply Calls.mono; (focus (apply l20Pairs_any; (focus (repeat (first | with_reducible exact hr | (with_reducible apply Rd.base_at hs1 hB1; simp; done) | with_reducible apply Rd.plus | with_reducible apply Rd.drew | with_reducible apply Rd.drewN | with_reducible apply Rd.drw | with_reducible apply Rd.alloc | with_reducible apply Rd.set))); all_goals omega)); rintro e w1 ⟨m, zs, a', c', hP, rfl, hO, hG⟩))
  have hr1 : Rd (w.alloc (.cells #[.slice a n1 c1, .int .i64 0] 58)) w.heap.size a n1 c1 0 := Rd.base hs1 hB1
  obtain ⟨p1, hp0, hp1, os, d, rfl⟩ := hG
  have hr2 := (hr1.set p1).plus os d
  have hlist : ListOff w.heap.size [] (plus ((w.alloc (.cells #[.slice a n1 c1, .int .i64 0] 58)).setCell ⟨w.heap.size, 1, none⟩ (.int .i64 p1)) os d) a' zs := by
    rcases hO.2 with ⟨h0, h0'⟩ | ⟨g, cap, cur, h1, h2, _⟩
    · exact .inl (List.eq_nil_of_length_eq_zero (by rw [hO.len, h0', Nat.zero_mul]))
    · simp only [Value.slice.injEq] at h1
      obtain ⟨rfl, _, rfl⟩ := h1
      rcases hO.ints.2 with h3 | ⟨blk, off, h3, h4⟩
      · exact .inl h3
      · simp only [Option.some.injEq, Addr.mk.injEq, and_true] at h3
        obtain ⟨rfl, rfl⟩ := h3
        exact .inr ⟨g, 0, rfl, ⟨by simp at h2; omega, by simp⟩, h4⟩
  have hz := hO.len
  have hm := hP.1
  have HO := Lib.hid (hO.more (B' := w.heap.size + 1) (by simp))
  clear hO hr1
  have HBW := Lib.hid (show Below w.heap.size w (plus ((w.alloc (.cells #[.slice a n1 c1, .int .i64 0] 58)).setCell ⟨w.heap.size, 1, none⟩ (.int .i64 p1)) os d) by repeat (first | with_reducible exact Below.refl _ _ | with_reducible apply below_alloc | with_reducible apply below_drw | with_reducible apply below_drew | with_reducible apply below_drewN | with_reducible apply below_plus | with_reducible apply below_set | (simp; done)))
  generalize plus ((w.alloc (.cells #[.slice a n1 c1, .int .i64 0] 58)).setCell ⟨w.heap.size, 1, none⟩ (.int .i64 p1)) os d = W1 at hr2 hlist HO HBW ⊢
  refine wp_region_any (by kernel_rfl) ?_
  show wpAny _ _ _ _ _ _ _ (World.drew _)
  refine region_shapes (fun f => if f = 21 then .int (-2000) 2000 else .any) [(4, .rd), (5, .list a' m c' zs)] w.heap.size [] a n1 c1 1 p1 _ _ hr2.drew ?_ ?_ (bytesOff_none hr2.bytes) (by omega) (by decide) (by show p1 + 1 * (16 : Int) ≤ _; omega) (by kernel_rfl) (by kernel_rfl) ?_ ?_ List.Pairwise.nil ?_
  · simp
  · intro r hr; simp at hr
  · intro x hx
    simp only [List.mem_cons, List.not_mem_nil, or_false] at hx
    rcases hx with rfl | rfl
    · rfl
    · exact ⟨rfl, hlist⟩
  · ((repeat (refine allSteps_cons ?_ ?_; focus (first | refine steps_move (by decide) _ (.inl rfl) (by intro s hs; cases hs; rfl) | refine steps_move (by decide) _ (.inr rfl) (by intro s hs; cases hs; rfl) | refine steps_pick (by decide) _ _ _ rfl rfl (by rfl) (by intro s hs; cases hs; rfl) | refine steps_add (by decide) _ _ _ _ _ _ rfl rfl rfl (by rfl) (by intro s hs; cases hs; rfl) | refine steps_sub (by decide) _ _ _ _ _ _ rfl rfl rfl (by rfl) (by intro s hs; cases hs; rfl) | refine steps_max (by decide) _ _ _ _ _ _ rfl rfl rfl rfl (by intro s hs; cases hs; rfl) | refine steps_neg (by decide) _ _ _ rfl rfl (by rfl) (by intro s hs; cases hs; rfl) | refine steps_mulK (by decide) _ _ _ _ _ rfl rfl rfl (by rfl) (by intro s hs; cases hs; rfl) | refine steps_mulL (by decide) _ _ _ _ _ rfl rfl rfl (by rfl) (by intro s hs; cases hs; rfl) | refine steps_quoK (by decide) _ _ _ _ _ rfl rfl rfl (by rfl) (by intro s hs; cases hs; rfl) | refine steps_index (by decide) _ _ _ _ _ _ _ rfl rfl rfl (by rfl) (by intro s hs; cases hs; rfl) | refine steps_load (by decide) _ _ _ rfl rfl (by intro s hs; cases hs; rfl) | refine steps_agg_pair (by decide) _ _ _ _ _ _ rfl rfl rfl (by intro s hs; cases hs; rfl) | refine steps_read_pair (by decide) _ _ _ _ _ rfl rfl (by intro s hs; cases hs; rfl) | refine steps_at_pair0 (by decide) _ _ _ _ _ rfl rfl (by intro s hs; cases hs; rfl) | refine steps_at_pair1 (by decide) _ _ _ _ _ rfl rfl (by intro s hs; cases hs; rfl) | refine stores_pair _ _ _ _ _ _ _ _ _ _ _ _ rfl rfl rfl (by first | rfl | (simp; omega) | simp) | (refine steps_build2 (by decide) _ _ ?_ ?_ _ _ _ _ rfl rfl rfl ?_ ?_; rotate_left 3; (intro s hs; cases hs; rfl); (all_goals rfl)) | (refine steps_build3 (by decide) _ _ _ ?_ ?_ _ _ _ _ _ _ rfl rfl rfl rfl ?_ ?_; rotate_left 3; (intro s hs; cases hs; rfl); (all_goals rfl)) | (refine steps_build4 (by decide) _ _ _ _ ?_ ?_ _ _ _ _ _ _ _ _ rfl rfl rfl rfl rfl ?_ ?_; rotate_left 3; (intro s hs; cases hs; rfl); (all_goals rfl)) | (refine steps_build5 (by decide) _ _ _ _ _ ?_ ?_ _ _ _ _ _ _ _ _ _ _ rfl rfl rfl rfl rfl rfl ?_ ?_; rotate_left 3; (intro s hs; cases hs; rfl); (all_goals rfl)) | (refine steps_build6 (by decide) _ _ _ _ _ _ ?_ ?_ _ _ _ _ _ _ _ _ _ _ _ _ rfl rfl rfl rfl rfl rfl rfl ?_ ?_; rotate_left 3; (intro s hs; cases hs; rfl); (all_goals rfl)) | (refine steps_build7 (by decide) _ _ _ _ _ _ _ ?_ ?_ _ _ _ _ _ _ _ _ _ _ _ _ _ _ rfl rfl rfl rfl rfl rfl rfl rfl ?_ ?_; rotate_left 3; (intro s hs; cases hs; rfl); (all_goals rfl)) | (refine steps_build8 (by decide) _ _ _ _ _ _ _ _ ?_ ?_ _ _ _ _ _ _ _ _ _ _ _ _ _ _ _ _ rfl rfl rfl rfl rfl rfl rfl rfl rfl ?_ ?_; rotate_left 3; (intro s hs; cases hs; rfl); (all_goals rfl)) | (refine steps_build9 (by decide) _ _ _ _ _ _ _ _ _ ?_ ?_ _ _ _ _ _ _ _ _ _ _ _ _ _ _ _ _ _ _ rfl rfl rfl rfl rfl rfl rfl rfl rfl rfl ?_ ?_; rotate_left 3; (intro s hs; cases hs; rfl); (all_goals rfl)) | (refine steps_build10 (by decide) _ _ _ _ _ _ _ _ _ _ ?_ ?_ _ _ _ _ _ _ _ _ _ _ _ _ _ _ _ _ _ _ _ _ rfl rfl rfl rfl rfl rfl rfl rfl rfl rfl rfl ?_ ?_; rotate_left 3; (intro s hs; cases hs; rfl); (all_goals rfl)) | (refine steps_read (by decide) _ _ _ _ _ _ _ _ _ sfit_enters (fun W h => (sFit_any a' m c' zs W hz h (by omega)).mono (fun e w1 h1 => ⟨_, fitF_bd zs m, h1.1, h1.2⟩)) rfl rfl (by intro s hs; cases hs; rfl))))); exact True.intro)
  · intro a1 q w1 hq0 hq1 hdef hsz hnear hrd1 hg hst
    have k2 := hg 2
    obtain ⟨u3, k3, l3, g3⟩ := hg 3
    have b3 : -2000 ≤ u3 ∧ u3 ≤ 2001 := ⟨l3, g3⟩
    have k2' : a1.tmps.getD 2 undef = .slice a' m c' := k2.1
    apply_assumption
    go_wp2
    refine bodyPost_ret (results_t2 rfl _ _ _) hdef ?_
    rw [k2', k3]
    have hN := hnear.below (B := (W1.drew.setCell ⟨w.heap.size, 1, none⟩ (.int .i64 q)).heap.size) (Nat.le_refl _) (by simp)
    have hO2 := (HO.out.drew.setb (i := 1) (show w.heap.size < w.heap.size + 1 by omega) (.int .i64 q)).below hN
    have hB2 := (show Below w.heap.size w W1.drew from ⟨HBW.out.os, HBW.out.tape, HBW.out.output, HBW.out.size, HBW.out.block⟩).setCell (p := ⟨w.heap.size, 1, none⟩) (Nat.le_refl _) (.int .i64 q)
    exact ⟨m, zs, a', c', u3, b3, rfl, hP, hO2.more (by omega), hB2.trans (hN.mono (by simpa using hB2.size))⟩

theorem PrD.five {zs : List Int} {n : Nat} (h : PrD n zs) (k : Nat) : PrD n (zs.set (k * 2) 5) := by
  refine ⟨h.1, fun j hj => ?_⟩
  have h1 := h.2 j hj
  have e2 : pY (zs.set (k * 2) 5) j = pY zs j := by unfold pY; rw [List.getD_eq_getElem?_getD, List.getElem?_set_ne (by omega), ← List.getD_eq_getElem?_getD]
  rw [e2]
  refine ⟨?_, h1.2⟩
  by_cases e : j = k
  · subst e
    unfold pX
    rw [List.getD_eq_getElem?_getD, List.getElem?_set]
    split
    · split
      · show -50 ≤ (5 : Int) ∧ (5 : Int) ≤ 1001; omega
      · show -50 ≤ (0 : Int) ∧ (0 : Int) ≤ 1001; omega
    · omega
  · have e1 : pX (zs.set (k * 2) 5) j = pX zs j := by unfold pX; rw [List.getD_eq_getElem?_getD, List.getElem?_set_ne (by omega), ← List.getD_eq_getElem?_getD]
    rw [e1]; exact h1.1

set_option maxHeartbeats 4000000 in
theorem drawFitSlope_any (a : Option Addr) (n c : Nat) (w : World) (hb : Bytes w w.heap.size a n) (hnc : n ≤ c) (hcm : c ≤ maxLen) :
    Calls Try.prog 28 #[.slice a n c] w fun e w' => ∃ (m : Nat) (zs : List Int) (a' : Option Addr) (c' : Nat), e = .returned (.slice a' m c') ∧ Drawn2 w (.slice a' m c') m zs w' := by
  go_enter Try.func28, Try.ntmps28
  go_wp2_with (first | (go_at_call 42; apply Calls.mono; (focus (apply open_any; (focus (apply Bytes.later hb; repeat (first | with_reducible exact Below.refl _ _ | with_reducible apply below_alloc | with_reducible apply below_drw | with_reducible apply below_drew | with_reducible apply below_drewN | with_reducible apply below_plus | with_reducible apply below_set | (simp; done)))); exact hnc; exact hcm)); rintro e w1 ⟨n1, c1, hs1, hB1, rfl, rfl⟩) | (go_at_call 41; apply Calls.mono; (focus (apply l20Pairs_any; (focus (repeat (first | with_reducible exact hr | (with_reducible apply Rd.base_at hs1 hB1; simp; done) | with_reducible apply Rd.plus | with_reducible apply Rd.drew | with_reducible apply Rd.drewN | with_reducible apply Rd.drw | with_reducible apply Rd.alloc | with_reducible apply Rd.set))); all_goals omega)); rintro e w1 ⟨m, zs, a', c', hP, rfl, hO, hG⟩))
  have hr1 : Rd (w.alloc (.cells #[.slice a n1 c1, .int .i64 0] 58)) w.heap.size a n1 c1 0 := Rd.base hs1 hB1
  obtain ⟨p1, hp0, hp1, os, d, rfl⟩ := hG
  have hr := (hr1.set p1).plus os d
  have hm := hP.1
  have HO := Lib.hid (hO.more (B' := w.heap.size + 1) (by simp))
  have HP := Lib.hid hP
  have HBW := Lib.hid (show Below w.heap.size w (plus ((w.alloc (.cells #[.slice a n1 c1, .int .i64 0] 58)).setCell ⟨w.heap.size, 1, none⟩ (.int .i64 p1)) os d) by repeat (first | with_reducible exact Below.refl _ _ | with_reducible apply below_alloc | with_reducible apply below_drw | with_reducible apply below_drew | with_reducible apply below_drewN | with_reducible apply below_plus | with_reducible apply below_set | (simp; done)))
  clear hO hr1 hP
  generalize plus ((w.alloc (.cells #[.slice a n1 c1, .int .i64 0] 58)).setCell ⟨w.heap.size, 1, none⟩ (.int .i64 p1)) os d = W1 at hr HO HBW ⊢
  go_wp2_with (first | (go_at_call 49; apply Calls.mono; (focus (apply odd_any; (focus (repeat (first | with_reducible exact hr | (with_reducible apply Rd.base_at hs1 hB1; simp; done) | with_reducible apply Rd.plus | with_reducible apply Rd.drew | with_reducible apply Rd.drewN | with_reducible apply Rd.drw | with_reducible apply Rd.alloc | with_reducible apply Rd.set))); all_goals omega)); rintro e w1 ⟨t, p', d, hp0, hp1, rfl, rfl⟩; cases t))
  · go_ret
    exact ⟨m, zs, a', c', rfl, HP.out, ((HO.out.setb (show w.heap.size < w.heap.size + 1 by omega) _).drw _).more (by omega), bdrw (HBW.out.setCell (p := ⟨w.heap.size, 1, none⟩) (Nat.le_refl _) _) _⟩
  · have HO2 := Lib.hid ((HO.out.setb (i := 1) (show w.heap.size < w.heap.size + 1 by omega) (.int .i64 p')).drw d)
    have HB2 := Lib.hid (bdrw (HBW.out.setCell (p := ⟨w.heap.size, 1, none⟩) (Nat.le_refl _) (.int .i64 p')) d)
    have hmm : m ≤ 9223372036854775807 := by omega
    clear hr HO HBW
    generalize drw (W1.setCell ⟨w.heap.size, 1, none⟩ (.int .i64 p')) d = W2 at HO2 HB2 ⊢
    go_loopw [5] (fun iv wr => ∃ (j : Nat) (us : List Int), j ≤ m ∧ iv = .int .i64 j ∧ Hid (PrD m us) ∧ Hid (OwnG 32 2 wr (w.heap.size + 1) (.slice a' m c') m us) ∧ Hid (Below w.heap.size w wr)) (fun iv _ => m - (intOf iv).toNat)
    case atStart => exact ⟨0, zs, Nat.zero_le _, rfl, HP, HO2, HB2⟩
    case round =>
      obtain ⟨j, us, hj, rfl, HU, HO, HW⟩ := hrel
      by_cases hlt : j < m
      · have hlt' : (j : Int) < (m : Int) := by omega
        obtain ⟨g, cap, hv, hg1, hg2⟩ := HO.out.head (by omega)
        simp only [Value.slice.injEq] at hv
        obtain ⟨rfl, _, rfl⟩ := hv
        have c0 := HO.out.cell (j := j * 2) (by rw [HO.out.len]; omega)
        have f0 := HO.out.free (j * 2)
        have HS := Lib.hid (HO.out.set (j * 2) 5)
        go_wp2
        go_roundw
        case rel => exact ⟨j + 1, us.set (j * 2) 5, by omega, by go_num, HU.out.five j, HS.out.1, HW.out.setCell (p := ⟨g, j * 2, none⟩) (by simp; omega) _⟩
        case measure => simp [intOf]; omega
      · have hlt' : ¬ (j : Int) < (m : Int) := by omega
        go_wp2
        go_ret
        exact ⟨m, us, _, _, rfl, HU.out, HO.out.more (by omega), HW.out⟩

/-- Drawn pairs of which one may be an outlier. -/
def PrW (n : Nat) (zs : List Int) : Prop := n ≤ 21 ∧ ∀ j, j < n → (-50 ≤ pX zs j ∧ pX zs j ≤ 1001) ∧ -170 ≤ pY zs j ∧ pY zs j ≤ 900
def DrawnW (w : World) (v : Value) (n : Nat) (zs : List Int) (w' : World) : Prop := PrW n zs ∧ OwnG 32 2 w' w.heap.size v n zs ∧ Below w.heap.size w w'
theorem PrD.wide {n : Nat} {zs : List Int} (h : PrD n zs) : PrW n zs := ⟨h.1, fun j hj => by have := h.2 j hj; omega⟩
theorem PrD.far {zs : List Int} {n : Nat} (h : PrD n zs) (k : Nat) : PrW n (zs.set (k * 2 + 1) 900) := by
  refine ⟨h.1, fun j hj => ?_⟩
  have h1 := h.2 j hj
  have e2 : pX (zs.set (k * 2 + 1) 900) j = pX zs j := by unfold pX; rw [List.getD_eq_getElem?_getD, List.getElem?_set_ne (by omega), ← List.getD_eq_getElem?_getD]
  rw [e2]
  refine ⟨h1.1, ?_⟩
  by_cases e : j = k
  · subst e
    unfold pY
    rw [List.getD_eq_getElem?_getD, List.getElem?_set]
    split
    · split
      · show -170 ≤ (900 : Int) ∧ (900 : Int) ≤ 900; omega
      · show -170 ≤ (0 : Int) ∧ (0 : Int) ≤ 900; omega
    · omega
  · have e1 : pY (zs.set (k * 2 + 1) 900) j = pY zs j := by unfold pY; rw [List.getD_eq_getElem?_getD, List.getElem?_set_ne (by omega), ← List.getD_eq_getElem?_getD]
    rw [e1]; omega

/-- A cell of another block is set. -/
theorem Rd.far {w W : World} {a : Option Addr} {n c : Nat} {q : Int} {g i : Nat} {u : Value} (h : Rd W w.heap.size a n c q) (hB : Bytes w w.heap.size a n) (hb : Below w.heap.size w W) (hg : w.heap.size < g) : Rd (W.setCell ⟨g, i, none⟩ u) w.heap.size a n c q := by
  have e := Below.heap_setCell W ⟨g, i, none⟩ u w.heap.size (by simp; omega)
  have hb2 := hb.setCell (p := ⟨g, i, none⟩) (by simp; omega) u
  refine ⟨(World.cell?_of_block (w := W) (a := ⟨w.heap.size, 0, none⟩) e).trans h.code, (World.cell?_of_block (w := W) (a := ⟨w.heap.size, 1, none⟩) e).trans h.at_, (World.frozen?_of_block (w := W) (a := ⟨w.heap.size, 1, none⟩) e).trans h.free, h.short, ?_⟩
  rcases hB with h0 | ⟨blk, off, ha, hne, hz⟩
  · exact .inl h0
  · refine .inr ⟨blk, off, ha, hne, fun i hi => ?_⟩
    obtain ⟨z, z0, z1, hc⟩ := hz i hi
    exact ⟨z, z0, z1, (hb2.cell (p := ⟨blk, off + i, none⟩) (World.block_lt_of_cell? _ _ hc)).trans hc⟩

set_option maxHeartbeats 4000000 in
theorem drawWithoutOutliers_any (a : Option Addr) (n c : Nat) (w : World) (hb : Bytes w w.heap.size a n) (hnc : n ≤ c) (hcm : c ≤ maxLen) :
    Calls Try.prog 29 #[.slice a n c] w fun e w' => ∃ (m : Nat) (zs : List Int) (a' : Option Addr) (c' : Nat) (l : Int), (-1 ≤ l ∧ l ≤ 199) ∧ e = .returned (.tuple #[.slice a' m c', .int .i64 l]) ∧ DrawnW w (.slice a' m c') m zs w' := by
  go_enter Try.func29, Try.ntmps29
  go_wp2_with (first | (go_at_call 42; apply Calls.mono; (focus (apply open_any; (focus (apply Bytes.later hb; repeat (first | with_reducible exact Below.refl _ _ | with_reducible apply below_alloc | with_reducible apply below_drw | with_reducible apply below_drew | with_reducible apply below_drewN | with_reducible apply below_plus | with_reducible apply below_set | (simp; done)))); exact hnc; exact hcm)); rintro e w1 ⟨n1, c1, hs1, hB1, rfl, rfl⟩))
  apply Calls.mono
  · apply l20Pairs_any
    · (focus (repeat (first | with_reducible exact hr | (with_reducible apply Rd.base_at hs1 hB1; simp; done) | with_reducible apply Rd.plus | with_reducible apply Rd.drew | with_reducible apply Rd.drewN | with_reducible apply Rd.drw | with_reducible apply Rd.alloc | with_reducible apply Rd.set)))
    all_goals omega
  rintro e w1 ⟨m, zs, a', c', hP, rfl, hO, hG⟩
  have hr1 : Rd (w.alloc (.cells #[.slice a n1 c1, .int .i64 0] 58)) w.heap.size a n1 c1 0 := Rd.base hs1 hB1
  obtain ⟨p1, hp0, hp1, os, d, rfl⟩ := hG
  have hr := (hr1.set p1).plus os d
  have hm := hP.1
  have HO := Lib.hid (hO.more (B' := w.heap.size + 1) (by simp))
  have HP := Lib.hid hP
  have HBW := Lib.hid (show Below w.heap.size w (plus ((w.alloc (.cells #[.slice a n1 c1, .int .i64 0] 58)).setCell ⟨w.heap.size, 1, none⟩ (.int .i64 p1)) os d) by repeat (first | with_reducible exact Below.refl _ _ | with_reducible apply below_alloc | with_reducible apply below_drw | with_reducible apply below_drew | with_reducible apply below_drewN | with_reducible apply below_plus | with_reducible apply below_set | (simp; done)))
  clear hO hr1 hP
  generalize plus ((w.alloc (.cells #[.slice a n1 c1, .int .i64 0] 58)).setCell ⟨w.heap.size, 1, none⟩ (.int .i64 p1)) os d = W1 at hr HO HBW ⊢
  have hlt := hr.lt
  have hle := Nat.le_of_lt hlt
  have h1 := hr.at_
  by_cases hm0 : m = 0
  · subst hm0
    go_wp2_with (first | (go_at_call 45; apply Calls.mono; (focus (with_reducible apply pick_any (m := 200); (focus (repeat (first | with_reducible exact hr | (with_reducible apply Rd.base_at hs1 hB1; simp; done) | with_reducible apply Rd.plus | with_reducible apply Rd.drew | with_reducible apply Rd.drewN | with_reducible apply Rd.drw | with_reducible apply Rd.alloc | with_reducible apply Rd.set))); all_goals omega)); rintro e w1 ⟨x5, d, hx50, hx51, rfl, rfl⟩; have := IntWalk.i64_in (x5 - 1) (by omega)))
    go_ret2
    exact ⟨0, zs, a', c', x5 - 1, ⟨by omega, by omega⟩, rfl, HP.out.wide, ((HO.out.setb (show w.heap.size < w.heap.size + 1 by omega) _).drw _).more (by omega), bdrw (HBW.out.setCell (p := ⟨w.heap.size, 1, none⟩) (Nat.le_refl _) _) _⟩
  · have hmp : (0 : Int) < (m : Int) := by omega
    obtain ⟨g, cap, hv, hg1, hg2⟩ := HO.out.head (by omega)
    simp only [Value.slice.injEq] at hv
    obtain ⟨rfl, _, rfl⟩ := hv
    have hm63 : m ≤ 9223372036854775807 := by omega
    go_wp2_with (first | (go_at_call 45; apply Calls.mono; (focus (with_reducible apply pick2_any; (focus (repeat (first | with_reducible exact hr | (with_reducible apply Rd.base_at hs1 hB1; simp; done) | with_reducible apply Rd.plus | with_reducible apply Rd.drew | with_reducible apply Rd.drewN | with_reducible apply Rd.drw | with_reducible apply Rd.alloc | with_reducible apply Rd.set))); all_goals omega)); rintro e w1 ⟨x, d, rfl | rfl, rfl, rfl⟩) | (go_at_call 45; apply Calls.mono; (focus (with_reducible apply pick_any (m := 200); (focus (repeat (first | with_reducible exact hr | (with_reducible apply Rd.base_at hs1 hB1; simp; done) | with_reducible apply Rd.plus | with_reducible apply Rd.drew | with_reducible apply Rd.drewN | with_reducible apply Rd.drw | with_reducible apply Rd.alloc | with_reducible apply Rd.set))); all_goals omega)); rintro e w1 ⟨x5, d, hx50, hx51, rfl, rfl⟩; have wb := IntWalk.i64_in (x5 - 1) (by omega)))
    · apply Calls.mono
      · apply pick_any (m := (m : Int))
        · (focus (repeat (first | with_reducible exact hr | (with_reducible apply Rd.base_at hs1 hB1; simp; done) | with_reducible apply Rd.plus | with_reducible apply Rd.drew | with_reducible apply Rd.drewN | with_reducible apply Rd.drw | with_reducible apply Rd.alloc | with_reducible apply Rd.set)))
        all_goals omega
      rintro e w1 ⟨y, d, hy0, hy1, rfl, rfl⟩
      obtain ⟨j, rfl⟩ := Int.eq_ofNat_of_zero_le hy0
      have hj : j < m := by omega
      have c0 := HO.out.cell (j := j * 2 + 1) (by rw [HO.out.len]; omega)
      have f0 := HO.out.free (j * 2 + 1)
      have hgb : g ≠ w.heap.size := by omega
      have hB3 := bdrw (HBW.out.setCell (p := ⟨w.heap.size, 1, none⟩) (Nat.le_refl _) (.int .i64 (p1 + 1 + 1))) d
      have hr3 := (hr.set (p1 + 1 + 1)).drw d
      have hr4 := hr3.far (g := g) (i := j * 2 + 1) (u := .int .i64 900) hB1 hB3 (by omega)
      have HB4 := Lib.hid (hB3.setCell (p := ⟨g, j * 2 + 1, none⟩) (by simp; omega) (.int .i64 900))
      have HO3 := ((HO.out.setb (i := 1) (show w.heap.size < w.heap.size + 1 by omega) (.int .i64 (p1 + 1 + 1))).drw d)
      have c3 := HO3.cell (j := j * 2 + 1) (by rw [HO.out.len]; omega)
      have f3 := HO3.free (j * 2 + 1)
      have HO4 := Lib.hid (HO3.set (j * 2 + 1) 900).1
      rw [drw_setCell] at hr4 HB4 HO4
      clear hB3 hr3 hr HO HBW h1 HO3 c3 f3
      go_wp2_with fail
      have hlt4 := hr4.lt
      have hle4 := Nat.le_of_lt hlt4
      generalize drw ((W1.setCell ⟨w.heap.size, 1, none⟩ (.int .i64 (p1 + 1 + 1))).setCell ⟨g, j * 2 + 1, none⟩ (.int .i64 900)) d = W4 at hr4 HB4 HO4 hlt4 hle4 ⊢
      apply Calls.mono
      · apply pick_any (m := 200)
        · exact hr4
        all_goals omega
      rintro e w1 ⟨x5, d, hx50, hx51, rfl, rfl⟩
      have wb := IntWalk.i64_in (x5 - 1) (by omega)
      go_wp2
      go_ret2
      exact ⟨m, _, _, _, x5 - 1, ⟨by omega, by omega⟩, rfl, HP.out.far j, ((HO4.out.setb (show w.heap.size < w.heap.size + 1 by omega) _).drw _).more (by omega), bdrw (HB4.out.setCell (p := ⟨w.heap.size, 1, none⟩) (Nat.le_refl _) _) _⟩
    · go_ret2
      exact ⟨m, zs, _, _, x5 - 1, ⟨by omega, by omega⟩, rfl, HP.out.wide, ((HO.out.setb (show w.heap.size < w.heap.size + 1 by omega) _).drw _).more (by omega), bdrw (HBW.out.setCell (p := ⟨w.heap.size, 1, none⟩) (Nat.le_refl _) _) _⟩

end Go.Proofs.Ytfonccnpgedgfaa
