/-
  Contracts of the functions that draw lists of pairs out of a code. Conditions: those that each theorem states.
-/
import Derived.Test.YtfonccnpgedgfaaPrD
import Derived.Test.YtfonccnpgedgfaaSh3
namespace Go.Proofs.Ytfonccnpgedgfaa
open Go.RowKit

/-- Pairs drawn out of a code. -/
def Drawn2 (w : World) (v : Value) (n : Nat) (zs : List Int) (w' : World) : Prop := PrD n zs ∧ OwnG 32 2 w' w.heap.size v n zs ∧ Below w.heap.size w w'
theorem gone_below {w0 w w' : World} {b : Nat} {p k : Int} (h : Below w0.heap.size w0 w) (hb : w0.heap.size ≤ b) (hg : Gone w b p k w') : Below w0.heap.size w0 w' := by
  obtain ⟨p', _, _, os, d, rfl⟩ := hg
  exact below_plus (h.setCell (p := ⟨b, 1, none⟩) hb _) _ _

set_option maxHeartbeats 2000000 in
theorem drawPairsValid_any (a : Option Addr) (n c : Nat) (w : World) (hb : Bytes w w.heap.size a n) (hnc : n ≤ c) (hcm : c ≤ maxLen) :
    Calls Try.prog 18 #[.slice a n c] w fun e w' => ∃ (m : Nat) (zs : List Int) (a' : Option Addr) (c' : Nat), e = .returned (.slice a' m c') ∧ Drawn2 w (.slice a' m c') m zs w' := by
  go_enter Try.func18, Try.ntmps18
  go_wp2_with (first | (go_at_call 42; apply Calls.mono; (focus (apply open_any; (focus (apply Bytes.later hb; repeat (first | with_reducible exact Below.refl _ _ | with_reducible apply below_alloc | with_reducible apply below_drw | with_reducible apply below_drew | with_reducible apply below_drewN | with_reducible apply below_plus | with_reducible apply below_set | (simp; done)))); exact hnc; exact hcm)); rintro e w1 ⟨n1, c1, hs1, hB1, rfl, rfl⟩) | (go_at_call 41; apply Calls.mono; (focus (apply l20Pairs_any; (focus (repeat (first | with_reducible exact hr | (with_reducible apply Rd.base_at hs1 hB1; simp; done) | with_reducible apply Rd.plus | with_reducible apply Rd.drew | with_reducible apply Rd.drewN | with_reducible apply Rd.drw | with_reducible apply Rd.alloc | with_reducible apply Rd.set))); all_goals omega)); rintro e w1 ⟨m, zs, a', c', hP, rfl, hO, hG⟩))
  go_ret
  exact ⟨m, zs, a', c', rfl, hP, hO.more (by simp), gone_below (below_alloc (Below.refl _ _) _) (by simp) hG⟩

set_option maxHeartbeats 2000000 in
theorem drawFitOffset_any (a : Option Addr) (n c : Nat) (w : World) (hb : Bytes w w.heap.size a n) (hnc : n ≤ c) (hcm : c ≤ maxLen) :
    Calls Try.prog 27 #[.slice a n c] w fun e w' => ∃ (m : Nat) (zs : List Int) (a' : Option Addr) (c' : Nat), e = .returned (.slice a' m c') ∧ Drawn2 w (.slice a' m c') m zs w' := by
  go_enter Try.func27, Try.ntmps27
  go_wp2_with (first | (go_at_call 42; apply Calls.mono; (focus (apply open_any; (focus (apply Bytes.later hb; repeat (first | with_reducible exact Below.refl _ _ | with_reducible apply below_alloc | with_reducible apply below_drw | with_reducible apply below_drew | with_reducible apply below_drewN | with_reducible apply below_plus | with_reducible apply below_set | (simp; done)))); exact hnc; exact hcm)); rintro e w1 ⟨n1, c1, hs1, hB1, rfl, rfl⟩) | (go_at_call 41; apply Calls.mono; (focus (apply l20Pairs_any; (focus (repeat (first | with_reducible exact hr | (with_reducible apply Rd.base_at hs1 hB1; simp; done) | with_reducible apply Rd.plus | with_reducible apply Rd.drew | with_reducible apply Rd.drewN | with_reducible apply Rd.drw | with_reducible apply Rd.alloc | with_reducible apply Rd.set))); all_goals omega)); rintro e w1 ⟨m, zs, a', c', hP, rfl, hO, hG⟩))
  go_ret
  exact ⟨m, zs, a', c', rfl, hP, hO.more (by simp), gone_below (below_alloc (Below.refl _ _) _) (by simp) hG⟩

end Go.Proofs.Ytfonccnpgedgfaa
