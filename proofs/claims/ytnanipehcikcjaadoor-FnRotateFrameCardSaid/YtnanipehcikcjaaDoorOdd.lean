/-
  The contract of the reader's question that is asked once in n times. Conditions: those that the theorem states.
-/
import Derived.Test.YtnanipehcikcjaaDoorCore
namespace Go.Proofs.YtnanipehcikcjaaDoor
open Go.RowKit

/-- A question that is asked once in n times: the place has gone on by at most one. -/
def Odd (w : World) (b : Nat) (p : Int) (e : Ending) (w' : World) : Prop :=
  ∃ (t : Bool) (p' : Int) (d : Nat), p ≤ p' ∧ p' ≤ p + 1 ∧ e = .returned (.bool t) ∧ w' = drw (w.setCell ⟨b, 1, none⟩ (.int .i64 p')) d

set_option maxHeartbeats 400000 in
theorem odd_any (b : Nat) (a : Option Addr) (n c : Nat) (p m : Int) (w : World) (hr : Rd w b a n c p) (hp : 0 ≤ p) (hp1 : p ≤ 1000000) (hm : 0 ≤ m) (hm1 : m ≤ 1000000) :
    Calls Tryd.prog 24 #[.pointer (some ⟨b, 0, none⟩), .int .i64 m] w (Odd w b p) := by
  by_cases h0 : 0 < m
  · go_enter Tryd.func24, Tryd.ntmps24
    go_wp2_with (go_at_call 23; refine (pick_any _ _ _ _ _ _ _ hr hp hp1 (by omega) hm1).mono ?_; rintro e w1 ⟨x, d, hx0, hx1, rfl, rfl⟩)
    go_ret
    exact ⟨_, p + 1, d, by omega, by omega, rfl, rfl⟩
  · go_enter Tryd.func24, Tryd.ntmps24
    go_wp2
    go_ret
    refine ⟨_, p, w.drawn, by omega, by omega, rfl, ?_⟩
    rw [setCell_self hr.at_, drw_id]

end Go.Proofs.YtnanipehcikcjaaDoor
