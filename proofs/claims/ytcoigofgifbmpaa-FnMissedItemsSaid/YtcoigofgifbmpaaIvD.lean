/-
  Contracts of the functions that draw a window and the arguments of the laws on the times of picks. Conditions: those that each theorem states.
-/
import Derived.Test.YtcoigofgifbmpaaPp
import Derived.Test.YtcoigofgifbmpaaOdd
import Derived.Test.YtcoigofgifbmpaaSh3
namespace Go.Proofs.Ytcoigofgifbmpaa
open Go.RowKit

def WinD (s l h : Int) : Prop := (-1 ≤ s ∧ s ≤ 201) ∧ (-20 ≤ l ∧ l ≤ 39) ∧ -80 ≤ h ∧ h ≤ 78

set_option maxHeartbeats 4000000 in
theorem l20Window_any (b : Nat) (a : Option Addr) (n c : Nat) (p : Int) (w : World) (hr : Rd w b a n c p) (hp : 0 ≤ p) (hp1 : p ≤ 800000) :
    Calls Try.prog 43 #[.pointer (some ⟨b, 0, none⟩)] w fun e w' => ∃ s l h, WinD s l h ∧ e = .returned (.tuple #[.int .i64 s, .int .i64 l, .int .i64 h]) ∧ Gone w b p 24 w' := by
  have hlt := hr.lt
  have hle := Nat.le_of_lt hlt
  have h1 := hr.at_
  go_enter Try.func43, Try.ntmps43
  go_wp2_with (first | (go_at_call 44; apply Calls.mono; (focus (with_reducible apply pick_any (m := 60); (focus (repeat (first | with_reducible exact hr | (with_reducible apply Rd.base_at hs1 hB1; simp; done) | with_reducible apply Rd.plus | with_reducible apply Rd.drew | with_reducible apply Rd.drewN | with_reducible apply Rd.drw | with_reducible apply Rd.alloc | with_reducible apply Rd.set))); all_goals omega)); rintro e w1 ⟨x1, d, hx10, hx11, rfl, rfl⟩; have := IntWalk.i64_in (x1 - 20) (by omega)))
  have hr2 := ((hr.set (p + 1)).drw d)
  refine wp_region_any (by kernel_rfl) ?_
  show wpAny _ _ _ _ _ _ _ (World.drew _)
  refine region_shapes (fun _ => .any) [(0, .rd), (5, .int (-20) 39)] b [] a n c 1 (p + 1) _ _ hr2.drew ?_ ?_ (bytesOff_none hr2.bytes) (by omega) (by decide) (by show p + 1 + 1 * (23 : Int) ≤ _; omega) (by kernel_rfl) (by kernel_rfl) ?_ ?_ List.Pairwise.nil ?_
  · simp
  · intro r hr; simp at hr
  · intro x hx
    simp only [List.mem_cons, List.not_mem_nil, or_false] at hx
    rcases hx with rfl | rfl
    · rfl
    · exact ⟨x1 - 20, rfl, by omega, by omega⟩
  · ((repeat (refine allSteps_cons ?_ ?_; focus (first | refine steps_move (by decide) _ (.inl rfl) (by intro s hs; cases hs; rfl) | refine steps_move (by decide) _ (.inr rfl) (by intro s hs; cases hs; rfl) | refine steps_pick (by decide) _ _ _ rfl rfl (by rfl) (by intro s hs; cases hs; rfl) | refine steps_add (by decide) _ _ _ _ _ _ rfl rfl rfl (by rfl) (by intro s hs; cases hs; rfl) | refine steps_sub (by decide) _ _ _ _ _ _ rfl rfl rfl (by rfl) (by intro s hs; cases hs; rfl) | refine steps_max (by decide) _ _ _ _ _ _ rfl rfl rfl rfl (by intro s hs; cases hs; rfl) | refine steps_neg (by decide) _ _ _ rfl rfl (by rfl) (by intro s hs; cases hs; rfl) | refine steps_mulK (by decide) _ _ _ _ _ rfl rfl rfl (by rfl) (by intro s hs; cases hs; rfl) | refine steps_mulL (by decide) _ _ _ _ _ rfl rfl rfl (by rfl) (by intro s hs; cases hs; rfl) | refine steps_quoK (by decide) _ _ _ _ _ rfl rfl rfl (by rfl) (by intro s hs; cases hs; rfl) | refine steps_index (by decide) _ _ _ _ _ _ _ rfl rfl rfl (by rfl) (by intro s hs; cases hs; rfl) | refine steps_load (by decide) _ _ _ rfl rfl (by intro s hs; cases hs; rfl) | refine steps_agg_item (by decide) _ _ _ _ _ _ rfl rfl rfl (by intro s hs; cases hs; rfl) | refine steps_read_item (by decide) _ _ _ _ _ rfl rfl (by intro s hs; cases hs; rfl) | refine steps_at_item0 (by decide) _ _ _ _ _ rfl rfl (by intro s hs; cases hs; rfl) | refine steps_at_item1 (by decide) _ _ _ _ _ rfl rfl (by intro s hs; cases hs; rfl) | refine stores_item _ _ _ _ _ _ _ _ _ _ _ _ rfl rfl rfl (by first | rfl | (simp; omega) | simp) | (refine steps_build2 (by decide) _ _ ?_ ?_ _ _ _ _ rfl rfl rfl ?_ ?_; rotate_left 3; (intro s hs; cases hs; rfl); (all_goals rfl)) | (refine steps_build3 (by decide) _ _ _ ?_ ?_ _ _ _ _ _ _ rfl rfl rfl rfl ?_ ?_; rotate_left 3; (intro s hs; cases hs; rfl); (all_goals rfl)) | (refine steps_build4 (by decide) _ _ _ _ ?_ ?_ _ _ _ _ _ _ _ _ rfl rfl rfl rfl rfl ?_ ?_; rotate_left 3; (intro s hs; cases hs; rfl); (all_goals rfl)) | (refine steps_build5 (by decide) _ _ _ _ _ ?_ ?_ _ _ _ _ _ _ _ _ _ _ rfl rfl rfl rfl rfl rfl ?_ ?_; rotate_left 3; (intro s hs; cases hs; rfl); (all_goals rfl)) | (refine steps_build6 (by decide) _ _ _ _ _ _ ?_ ?_ _ _ _ _ _ _ _ _ _ _ _ _ rfl rfl rfl rfl rfl rfl rfl ?_ ?_; rotate_left 3; (intro s hs; cases hs; rfl); (all_goals rfl)) | (refine steps_build7 (by decide) _ _ _ _ _ _ _ ?_ ?_ _ _ _ _ _ _ _ _ _ _ _ _ _ _ rfl rfl rfl rfl rfl rfl rfl rfl ?_ ?_; rotate_left 3; (intro s hs; cases hs; rfl); (all_goals rfl)) | (refine steps_build8 (by decide) _ _ _ _ _ _ _ _ ?_ ?_ _ _ _ _ _ _ _ _ _ _ _ _ _ _ _ _ rfl rfl rfl rfl rfl rfl rfl rfl rfl ?_ ?_; rotate_left 3; (intro s hs; cases hs; rfl); (all_goals rfl)) | (refine steps_build9 (by decide) _ _ _ _ _ _ _ _ _ ?_ ?_ _ _ _ _ _ _ _ _ _ _ _ _ _ _ _ _ _ _ rfl rfl rfl rfl rfl rfl rfl rfl rfl rfl ?_ ?_; rotate_left 3; (intro s hs; cases hs; rfl); (all_goals rfl)) | (refine steps_build10 (by decide) _ _ _ _ _ _ _ _ _ _ ?_ ?_ _ _ _ _ _ _ _ _ _ _ _ _ _ _ _ _ _ _ _ _ rfl rfl rfl rfl rfl rfl rfl rfl rfl rfl rfl ?_ ?_; rotate_left 3; (intro s hs; cases hs; rfl); (all_goals rfl)) | (fail)))); exact True.intro)
  · intro a1 q w1 hq0 hq1 hdef hsz hnear hrd1 hg hst
    obtain ⟨u2, k2, l2, g2⟩ := hg 2
    obtain ⟨u3, k3, l3, g3⟩ := hg 3
    obtain ⟨u4, k4, l4, g4⟩ := hg 4
    have b2 : -1 ≤ u2 ∧ u2 ≤ 201 := ⟨l2, g2⟩
    have b3 : -20 ≤ u3 ∧ u3 ≤ 39 := ⟨l3, g3⟩
    have b4 : -80 ≤ u4 ∧ u4 ≤ 78 := ⟨l4, g4⟩
    have hq2 : q ≤ p + 1 + 1 * (23 : Int) := hq1
    have hN := near_below (w := w) (q0 := .int .i64 (p + 1)) (show Below (w.setCell ⟨b, 1, none⟩ (.int .i64 (p + 1))).heap.size (w.setCell ⟨b, 1, none⟩ (.int .i64 (p + 1))) (drw (w.setCell ⟨b, 1, none⟩ (.int .i64 (p + 1))) d).drew by repeat (first | with_reducible exact Below.refl _ _ | with_reducible apply below_alloc | with_reducible apply below_drw | with_reducible apply below_drew | with_reducible apply below_drewN | with_reducible apply below_plus | with_reducible apply below_set | (simp; done))) hnear (by simp)
    apply_assumption
    go_wp2
    refine bodyPost_ret (results_t3 rfl _ _ _) hdef ?_
    rw [k2, k3, k4]
    exact ⟨_, _, _, ⟨b2, b3, b4⟩, rfl, gone q (by omega) (by omega) hN⟩

def PtD (p s l h r : Int) : Prop := (-510 ≤ p ∧ p ≤ 0) ∧ WinD s l h ∧ -1 ≤ r ∧ r ≤ 2001

theorem set_new {w : World} {b i : Nat} {v : Value} {cs : Array Value} {T : TypeId} (h : b = w.heap.size) : (w.alloc (.cells cs T)).setCell ⟨b, i, none⟩ v = w.alloc (.cells (cs.setIfInBounds i v) T) := by
  subst h
  unfold World.setCell World.alloc
  congr 1
  apply Array.ext_getElem?
  intro k
  simp only [Array.getElem?_modify, Array.getElem?_push]
  by_cases hk : w.heap.size = k
  · subst hk; simp
  · have hk' : ¬ k = w.heap.size := fun e => hk e.symm
    simp [hk, hk']

set_option maxHeartbeats 4000000 in
theorem drawPickTime_any (a : Option Addr) (n c : Nat) (w : World) (hb : Bytes w w.heap.size a n) (hnc : n ≤ c) (hcm : c ≤ maxLen) :
    Calls Try.prog 19 #[.slice a n c] w fun e w' => ∃ p s l h r, PtD p s l h r ∧ e = .returned (.tuple #[.int .i64 p, .int .i64 s, .int .i64 l, .int .i64 h, .int .i64 r]) ∧ Up w w' := by
  go_enter Try.func19, Try.ntmps19
  go_wp2_with (first | (go_at_call 42; apply Calls.mono; (focus (apply open_any; (focus (apply Bytes.later hb; repeat (first | with_reducible exact Below.refl _ _ | with_reducible apply below_alloc | with_reducible apply below_drw | with_reducible apply below_drew | with_reducible apply below_drewN | with_reducible apply below_plus | with_reducible apply below_set | (simp; done)))); exact hnc; exact hcm)); rintro e w1 ⟨n1, c1, hs1, hB1, rfl, rfl⟩) | (go_at_call 43; apply Calls.mono; (focus (apply l20Window_any; (focus (repeat (first | with_reducible exact hr | (with_reducible apply Rd.base_at hs1 hB1; simp; done) | with_reducible apply Rd.plus | with_reducible apply Rd.drew | with_reducible apply Rd.drewN | with_reducible apply Rd.drw | with_reducible apply Rd.alloc | with_reducible apply Rd.set))); all_goals omega)); rintro e w1 ⟨s, l, h, hW, rfl, p1, hp0, hp1, os, d, rfl⟩))
  obtain ⟨⟨s0, s1⟩, ⟨l0, l1⟩, h0, h1⟩ := hW
  have hr1 : Rd (w.alloc (.cells #[.slice a n1 c1, .int .i64 0] 62)) w.heap.size a n1 c1 0 := Rd.base hs1 hB1
  have hr2 := ((hr1.set p1).plus os d)
  have HBW := Lib.hid (show Below w.heap.size w (plus ((w.alloc (.cells #[.slice a n1 c1, .int .i64 0] 62)).setCell ⟨w.heap.size, 1, none⟩ (.int .i64 p1)) os d) by repeat (first | with_reducible exact Below.refl _ _ | with_reducible apply below_alloc | with_reducible apply below_drw | with_reducible apply below_drew | with_reducible apply below_drewN | with_reducible apply below_plus | with_reducible apply below_set | (simp; done)))
  have hsw := set_new (w := w) (b := w.heap.size) (i := 1) (v := .int .i64 p1) (cs := #[.slice a n1 c1, .int .i64 0]) (T := 62) rfl
  rw [hsw] at hr2 HBW
  refine wp_region_any (by kernel_rfl) ?_
  show wpAny _ _ _ _ _ _ _ (World.drew _)
  refine region_shapes (fun _ => .any) [(7, .rd), (8, .int (-1) 201), (9, .int (-20) 39), (10, .int (-80) 78)] w.heap.size [] a n1 c1 1 p1 _ _ ?_ ?_ ?_ (bytesOff_none hr2.bytes) (by omega) (by decide) (by show p1 + 1 * (22 : Int) ≤ _; omega) (by kernel_rfl) (by kernel_rfl) ?_ ?_ List.Pairwise.nil ?_
  · exact hr2.drew
  · simp
  · intro r hr; simp at hr
  · intro x hx
    simp only [List.mem_cons, List.not_mem_nil, or_false] at hx
    rcases hx with rfl | rfl | rfl | rfl
    · rfl
    · exact ⟨_, rfl, s0, s1⟩
    · exact ⟨_, rfl, l0, l1⟩
    · exact ⟨_, rfl, h0, h1⟩
  · ((repeat (refine allSteps_cons ?_ ?_; focus (first | refine steps_move (by decide) _ (.inl rfl) (by intro s hs; cases hs; rfl) | refine steps_move (by decide) _ (.inr rfl) (by intro s hs; cases hs; rfl) | refine steps_pick (by decide) _ _ _ rfl rfl (by rfl) (by intro s hs; cases hs; rfl) | refine steps_add (by decide) _ _ _ _ _ _ rfl rfl rfl (by rfl) (by intro s hs; cases hs; rfl) | refine steps_sub (by decide) _ _ _ _ _ _ rfl rfl rfl (by rfl) (by intro s hs; cases hs; rfl) | refine steps_max (by decide) _ _ _ _ _ _ rfl rfl rfl rfl (by intro s hs; cases hs; rfl) | refine steps_neg (by decide) _ _ _ rfl rfl (by rfl) (by intro s hs; cases hs; rfl) | refine steps_mulK (by decide) _ _ _ _ _ rfl rfl rfl (by rfl) (by intro s hs; cases hs; rfl) | refine steps_mulL (by decide) _ _ _ _ _ rfl rfl rfl (by rfl) (by intro s hs; cases hs; rfl) | refine steps_quoK (by decide) _ _ _ _ _ rfl rfl rfl (by rfl) (by intro s hs; cases hs; rfl) | refine steps_index (by decide) _ _ _ _ _ _ _ rfl rfl rfl (by rfl) (by intro s hs; cases hs; rfl) | refine steps_load (by decide) _ _ _ rfl rfl (by intro s hs; cases hs; rfl) | refine steps_agg_item (by decide) _ _ _ _ _ _ rfl rfl rfl (by intro s hs; cases hs; rfl) | refine steps_read_item (by decide) _ _ _ _ _ rfl rfl (by intro s hs; cases hs; rfl) | refine steps_at_item0 (by decide) _ _ _ _ _ rfl rfl (by intro s hs; cases hs; rfl) | refine steps_at_item1 (by decide) _ _ _ _ _ rfl rfl (by intro s hs; cases hs; rfl) | refine stores_item _ _ _ _ _ _ _ _ _ _ _ _ rfl rfl rfl (by first | rfl | (simp; omega) | simp) | (refine steps_build2 (by decide) _ _ ?_ ?_ _ _ _ _ rfl rfl rfl ?_ ?_; rotate_left 3; (intro s hs; cases hs; rfl); (all_goals rfl)) | (refine steps_build3 (by decide) _ _ _ ?_ ?_ _ _ _ _ _ _ rfl rfl rfl rfl ?_ ?_; rotate_left 3; (intro s hs; cases hs; rfl); (all_goals rfl)) | (refine steps_build4 (by decide) _ _ _ _ ?_ ?_ _ _ _ _ _ _ _ _ rfl rfl rfl rfl rfl ?_ ?_; rotate_left 3; (intro s hs; cases hs; rfl); (all_goals rfl)) | (refine steps_build5 (by decide) _ _ _ _ _ ?_ ?_ _ _ _ _ _ _ _ _ _ _ rfl rfl rfl rfl rfl rfl ?_ ?_; rotate_left 3; (intro s hs; cases hs; rfl); (all_goals rfl)) | (refine steps_build6 (by decide) _ _ _ _ _ _ ?_ ?_ _ _ _ _ _ _ _ _ _ _ _ _ rfl rfl rfl rfl rfl rfl rfl ?_ ?_; rotate_left 3; (intro s hs; cases hs; rfl); (all_goals rfl)) | (refine steps_build7 (by decide) _ _ _ _ _ _ _ ?_ ?_ _ _ _ _ _ _ _ _ _ _ _ _ _ _ rfl rfl rfl rfl rfl rfl rfl rfl ?_ ?_; rotate_left 3; (intro s hs; cases hs; rfl); (all_goals rfl)) | (refine steps_build8 (by decide) _ _ _ _ _ _ _ _ ?_ ?_ _ _ _ _ _ _ _ _ _ _ _ _ _ _ _ _ rfl rfl rfl rfl rfl rfl rfl rfl rfl ?_ ?_; rotate_left 3; (intro s hs; cases hs; rfl); (all_goals rfl)) | (refine steps_build9 (by decide) _ _ _ _ _ _ _ _ _ ?_ ?_ _ _ _ _ _ _ _ _ _ _ _ _ _ _ _ _ _ _ rfl rfl rfl rfl rfl rfl rfl rfl rfl rfl ?_ ?_; rotate_left 3; (intro s hs; cases hs; rfl); (all_goals rfl)) | (refine steps_build10 (by decide) _ _ _ _ _ _ _ _ _ _ ?_ ?_ _ _ _ _ _ _ _ _ _ _ _ _ _ _ _ _ _ _ _ _ rfl rfl rfl rfl rfl rfl rfl rfl rfl rfl rfl ?_ ?_; rotate_left 3; (intro s hs; cases hs; rfl); (all_goals rfl)) | (fail)))); exact True.intro)
  · intro a1 q w1 hq0 hq1 hdef hsz hnear hrd1 hg hst
    obtain ⟨u2, k2, l2, g2⟩ := hg 2
    obtain ⟨u3, k3, l3, g3⟩ := hg 3
    obtain ⟨u4, k4, l4, g4⟩ := hg 4
    obtain ⟨u5, k5, l5, g5⟩ := hg 5
    obtain ⟨u6, k6, l6, g6⟩ := hg 6
    have b2 : -510 ≤ u2 ∧ u2 ≤ 0 := ⟨l2, g2⟩
    have b3 : -1 ≤ u3 ∧ u3 ≤ 201 := ⟨l3, g3⟩
    have b4 : -20 ≤ u4 ∧ u4 ≤ 39 := ⟨l4, g4⟩
    have b5 : -80 ≤ u5 ∧ u5 ≤ 78 := ⟨l5, g5⟩
    have b6 : -1 ≤ u6 ∧ u6 ≤ 2001 := ⟨l6, g6⟩
    obtain ⟨os1, d1, rfl⟩ : ∃ os d, w1 = plus w os d := near_up (b := w.heap.size) (below_drew HBW.out) (Nat.le_refl _) hnear (by simp)
    apply_assumption
    go_wp2
    refine bodyPost_ret (results_t5 rfl _ _ _) hdef ?_
    rw [k2, k3, k4, k5, k6]
    exact ⟨_, _, _, _, _, ⟨b2, ⟨b3, b4, b5⟩, b6⟩, rfl, _, _, rfl⟩

end Go.Proofs.Ytcoigofgifbmpaa
