/-
  The contracts of the functions that draw claims out of a code. Conditions: those that each theorem states.
-/
import Derived.Test.YtlahgikhndjfoaaClD3
namespace Go.Proofs.Ytlahgikhndjfoaa
open Go.RowKit

/-- Claims that were drawn out of a code. -/
def DrawnC (w : World) (e : Ending) (w' : World) : Prop :=
  ∃ (n c g : Nat) (rs : List (List Int)) (fa : Option Addr) (fc : Nat) (k : Nat) (fs : List Int), n ≤ 4 ∧ n ≤ c ∧ c ≤ maxLen ∧ k ≤ fc ∧ fc ≤ maxLen ∧ rs.length = n * 2 ∧ fs.length = k ∧ 1 ≤ k ∧ k ≤ 5 ∧ rowsMax rs 4 ∧
    e = .returned (.tuple #[.slice (some ⟨g, 0, none⟩) n c, .slice fa k fc]) ∧ Grid w' (some ⟨g, 0, none⟩) rs ∧ Ints w' fa fs ∧ Below w.heap.size w w'

set_option maxHeartbeats 1000000 in
theorem drawClaimsValid_any (a : Option Addr) (n c : Nat) (w : World) (hb : Bytes w w.heap.size a n) (hnc : n ≤ c) (hcm : c ≤ maxLen) :
    Calls Try.prog 16 #[.slice a n c] w (DrawnC w) := by
  go_enter Try.func16, Try.ntmps16
  go_wp2_with (first | (go_at_call 24; apply Calls.mono; (focus (apply open_any; (focus (apply Bytes.later hb; repeat (first | with_reducible exact Below.refl _ _ | with_reducible apply below_alloc | with_reducible apply below_drw | with_reducible apply below_drew | with_reducible apply below_drewN | with_reducible apply below_plus | with_reducible apply below_set | (simp; done)))); exact hnc; exact hcm)); rintro e w1 ⟨n1, c1, hs1, hB1, rfl, rfl⟩) | (go_at_call 23; apply Calls.mono; (focus (apply l20Claims_any; (focus (repeat (first | with_reducible exact hr | (with_reducible apply Rd.base_at hs1 hB1; simp; done) | with_reducible apply Rd.plus | with_reducible apply Rd.drew | with_reducible apply Rd.drewN | with_reducible apply Rd.drw | with_reducible apply Rd.alloc | with_reducible apply Rd.set))); all_goals omega)); rintro e w1 ⟨n2, c2, g, rs, fa, fc, k, fs, p1, p2, p3, p4, p5, p6, p7, p8, p9, p10, rfl, hG, hI, q, hB⟩))
  go_ret2
  exact ⟨n2, c2, g, rs, fa, fc, k, fs, p1, p2, p3, p4, p5, p6, p7, p8, p9, p10, rfl, hG, hI, (((Below.refl _ _).alloc (Nat.le_refl _) _).setCell (p := ⟨w.heap.size, 1, none⟩) (Nat.le_refl _) _).trans (hB.mono (by simp))⟩

set_option maxHeartbeats 1000000 in
theorem drawFinishOrder_any (a : Option Addr) (n c : Nat) (w : World) (hb : Bytes w w.heap.size a n) (hnc : n ≤ c) (hcm : c ≤ maxLen) :
    Calls Try.prog 13 #[.slice a n c] w (DrawnC w) := by
  go_enter Try.func13, Try.ntmps13
  go_wp2_with (first | (go_at_call 24; apply Calls.mono; (focus (apply open_any; (focus (apply Bytes.later hb; repeat (first | with_reducible exact Below.refl _ _ | with_reducible apply below_alloc | with_reducible apply below_drw | with_reducible apply below_drew | with_reducible apply below_drewN | with_reducible apply below_plus | with_reducible apply below_set | (simp; done)))); exact hnc; exact hcm)); rintro e w1 ⟨n1, c1, hs1, hB1, rfl, rfl⟩) | (go_at_call 23; apply Calls.mono; (focus (apply l20Claims_any; (focus (repeat (first | with_reducible exact hr | (with_reducible apply Rd.base_at hs1 hB1; simp; done) | with_reducible apply Rd.plus | with_reducible apply Rd.drew | with_reducible apply Rd.drewN | with_reducible apply Rd.drw | with_reducible apply Rd.alloc | with_reducible apply Rd.set))); all_goals omega)); rintro e w1 ⟨n2, c2, g, rs, fa, fc, k, fs, p1, p2, p3, p4, p5, p6, p7, p8, p9, p10, rfl, hG, hI, q, hB⟩))
  go_ret2
  exact ⟨n2, c2, g, rs, fa, fc, k, fs, p1, p2, p3, p4, p5, p6, p7, p8, p9, p10, rfl, hG, hI, (((Below.refl _ _).alloc (Nat.le_refl _) _).setCell (p := ⟨w.heap.size, 1, none⟩) (Nat.le_refl _) _).trans (hB.mono (by simp))⟩

set_option maxHeartbeats 1000000 in
theorem drawStateSafe_any (a : Option Addr) (n c : Nat) (w : World) (hb : Bytes w w.heap.size a n) (hnc : n ≤ c) (hcm : c ≤ maxLen) :
    Calls Try.prog 7 #[.slice a n c] w (DrawnC w) := by
  go_enter Try.func7, Try.ntmps7
  go_wp2_with (first | (go_at_call 24; apply Calls.mono; (focus (apply open_any; (focus (apply Bytes.later hb; repeat (first | with_reducible exact Below.refl _ _ | with_reducible apply below_alloc | with_reducible apply below_drw | with_reducible apply below_drew | with_reducible apply below_drewN | with_reducible apply below_plus | with_reducible apply below_set | (simp; done)))); exact hnc; exact hcm)); rintro e w1 ⟨n1, c1, hs1, hB1, rfl, rfl⟩) | (go_at_call 23; apply Calls.mono; (focus (apply l20Claims_any; (focus (repeat (first | with_reducible exact hr | (with_reducible apply Rd.base_at hs1 hB1; simp; done) | with_reducible apply Rd.plus | with_reducible apply Rd.drew | with_reducible apply Rd.drewN | with_reducible apply Rd.drw | with_reducible apply Rd.alloc | with_reducible apply Rd.set))); all_goals omega)); rintro e w1 ⟨n2, c2, g, rs, fa, fc, k, fs, p1, p2, p3, p4, p5, p6, p7, p8, p9, p10, rfl, hG, hI, q, hB⟩))
  go_ret2
  exact ⟨n2, c2, g, rs, fa, fc, k, fs, p1, p2, p3, p4, p5, p6, p7, p8, p9, p10, rfl, hG, hI, (((Below.refl _ _).alloc (Nat.le_refl _) _).setCell (p := ⟨w.heap.size, 1, none⟩) (Nat.le_refl _) _).trans (hB.mono (by simp))⟩

end Go.Proofs.Ytlahgikhndjfoaa
