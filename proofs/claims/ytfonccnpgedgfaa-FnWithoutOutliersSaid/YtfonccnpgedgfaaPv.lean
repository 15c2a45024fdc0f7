/-
  Contracts of the functions on valid pairs (program and reference). Conditions: those that each theorem states.
-/
import Derived.Test.YtfonccnpgedgfaaLs
import Derived.Test.YtfonccnpgedgfaaPrP
import Derived.Test.YtfonccnpgedgfaaNum0
import Derived.Shelf.Abstract
namespace Go.Proofs.Ytfonccnpgedgfaa
open Go.RowKit

/-- Pair j of a list that reads. -/
theorem Ints.pair {w : World} {a : Option Addr} {n : Nat} {zs : List Int} (h : Ints w a zs) (hz : zs.length = n * 2) {j : Nat} (hj : j < n) :
    ∃ blk off, a = some ⟨blk, off, none⟩ ∧ blk < w.heap.size ∧ w.cell? ⟨blk, off + j * 2, none⟩ = some (.int .i64 (pX zs j)) ∧ w.cell? ⟨blk, off + j * 2 + 1, none⟩ = some (.int .i64 (pY zs j)) := by
  rcases h with h0 | ⟨blk, off, rfl, hc⟩
  · rw [h0] at hz; simp at hz; omega
  have c0 := hc (j * 2) (by omega)
  have c1 := hc (j * 2 + 1) (by omega)
  rw [← Nat.add_assoc] at c1
  exact ⟨blk, off, rfl, World.block_lt_of_cell? _ _ c0, c0, c1⟩

def badQ (x : Int × Int) : Bool := !inB x.1 (-1000) 1000 || !inB x.2 (-1000) 1000

set_option maxHeartbeats 400000 in
theorem bad_any (x y : Int) (w : World) :
    Calls Try.prog 39 #[.agg #[.int .i64 x, .int .i64 y]] w fun e w' => e = .returned (.bool (badQ (x, y))) ∧ Up w w' := by
  cases h1 : inB x (-1000) 1000 <;> cases h2 : inB y (-1000) 1000 <;>
  · have KK : ∀ b, badQ (x, y) = b → Ending.returned (.bool b) = .returned (.bool (badQ (x, y))) := fun b h => by rw [h]
    have KK := KK _ (by simp only [badQ, h1, h2]; rfl)
    go_enter Try.func39, Try.ntmps39
    go_wp2_with (go_at_call 37; refine (within_any _ _ _ _).mono ?_; rintro e w' ⟨rfl, rfl⟩)
    go_ret
    exact ⟨KK, up_of_below (by repeat (first | with_reducible exact Below.refl _ _ | with_reducible apply below_alloc | with_reducible apply below_drw | with_reducible apply below_drew | with_reducible apply below_drewN | with_reducible apply below_plus | with_reducible apply below_set | (simp; done)))⟩

theorem bad_enters (args : Array Value) (w : World) : (callFunc 39 args).run Try.prog w = .ok (.enter 39 args) w := (enters_of Try.func39 (by kernel_rfl) rfl) args w
theorem bad_ok (zs : List Int) (j : Nat) : badQ (pX zs j, pY zs j) = !okP zs j := by simp [badQ, okP, Bool.not_and]

set_option maxHeartbeats 1000000 in
theorem index_any (a : Option Addr) (n c : Nat) (zs : List Int) (w : World) (hz : zs.length = n * 2) (hi : Ints w a zs) (hn : n ≤ 1000000000) :
    Calls Try.prog 50 #[.slice a n c, .func (.func 39) #[] #[]] w fun e w' => ∃ r : Int, e = .returned (.int .i64 r) ∧ decide (0 ≤ r) = (!allB (okP zs) n) ∧ Up w w' := by
  have HI := Lib.hid hi
  have HZ := Lib.hid hz
  have eg := bad_enters
  clear hi hz
  go_enter Try.func50, Try.ntmps50
  go_wp2
  go_loopw [8] (fun iv wr => ∃ j : Nat, j ≤ n ∧ iv = .int .i64 j ∧ Hid (∀ i, i < j → okP zs i = true) ∧ ∃ os d, wr = plus w os d) (fun iv _ => n - (intOf iv).toNat)
  case atStart => exact ⟨0, Nat.zero_le _, rfl, fun i hi => absurd hi (Nat.not_lt_zero _), #[], _, plus_id.symm⟩
  case round =>
    obtain ⟨j, hj, rfl, HP, os, d, rfl⟩ := hrel
    by_cases hlt : j < n
    · have hlt' : (j : Int) < (n : Int) := by omega
      obtain ⟨blk, off, rfl, hb, c0, c1⟩ := HI.out.pair HZ.out hlt
      have hbad := fun W => bad_any (pX zs j) (pY zs j) W
      have hok := bad_ok zs j
      cases hq : okP zs j <;> rw [hq] at hok <;> rw [hok] at hbad <;> clear hok
      · have HY : Hid (allB (okP zs) n = false) := allB_f hlt hq
        clear hq
        generalize pX zs j = x at c0 hbad
        generalize pY zs j = y at c1 hbad
        go_wp2_with (first | (go_at_call 39; refine (hbad _).mono ?_; rintro e w1 ⟨rfl, os, d, rfl⟩))
        go_ret
        exact ⟨j, rfl, by rw [HY.out]; simp, _, _, rfl⟩
      · have HY := Lib.hid hq
        clear hq
        generalize pX zs j = x at c0 hbad
        generalize pY zs j = y at c1 hbad
        go_wp2_with (first | (go_at_call 39; refine (hbad _).mono ?_; rintro e w1 ⟨rfl, os, d, rfl⟩))
        go_roundw
        case rel =>
          refine ⟨j + 1, by omega, by go_num, fun i hi => ?_, _, _, rfl⟩
          by_cases hij : i = j
          · subst hij; exact HY.out
          · exact HP.out i (by omega)
        case measure => simp [intOf]; omega
    · have hlt' : ¬ (j : Int) < (n : Int) := by omega
      obtain rfl : j = n := by omega
      have HY : Hid (allB (okP zs) j = true) := allB_t.2 HP.out
      go_wp2
      go_ret
      exact ⟨-1, rfl, by rw [HY.out]; rfl, _, _, rfl⟩

set_option maxHeartbeats 400000 in
theorem contains_any (a : Option Addr) (n c : Nat) (zs : List Int) (w : World) (hz : zs.length = n * 2) (hi : Ints w a zs) (hn : n ≤ 1000000000) :
    Calls Try.prog 38 #[.slice a n c, .func (.func 39) #[] #[]] w fun e w' => e = .returned (.bool (!allB (okP zs) n)) ∧ Up w w' := by
  have H := Lib.hid (index_any a n c zs w hz hi hn)
  clear hz hi
  generalize allB (okP zs) n = q at H ⊢
  go_enter Try.func38, Try.ntmps38
  go_wp2_with (first | (go_at_call 50; refine H.out.mono ?_; rintro e w1 ⟨r, rfl, hr, hup⟩))
  all_goals
    go_ret
    exact ⟨by rw [← hr]; simp_all, hup⟩

set_option maxHeartbeats 1000000 in
theorem valid_any (a : Option Addr) (n c : Nat) (zs : List Int) (w : World) (hz : zs.length = n * 2) (hi : Ints w a zs) (hn : n ≤ 1000000000) :
    Calls Try.prog 16 #[.slice a n c] w fun e w' => e = .returned (.bool (pairsB n zs)) ∧ Up w w' := by
  cases h1 : inB n 1 20
  · have KK : Ending.returned (.bool false) = .returned (.bool (pairsB n zs)) := by rw [pairsB, h1]; rfl
    go_enter Try.func16, Try.ntmps16
    go_wp2_with (go_at_call 37; refine (within_any _ _ _ _).mono ?_; rintro e w' ⟨rfl, rfl⟩)
    go_ret
    exact ⟨KK, up_of_below (Below.refl _ _)⟩
  · have hn1 := (inB_t.1 h1).1
    rcases hi with h0 | ⟨blk, off, rfl, hc⟩
    · rw [h0] at hz; simp at hz; omega
    have hcon := contains_any (some ⟨blk, off, none⟩) n c zs w hz (.inr ⟨blk, off, rfl, hc⟩) hn
    have KK : Ending.returned (.bool (!!allB (okP zs) n)) = .returned (.bool (pairsB n zs)) := by rw [pairsB, h1]; simp
    generalize allB (okP zs) n = r at hcon KK
    clear hc hz
    go_enter Try.func16, Try.ntmps16
    go_wp2_with (first | (go_at_call 37; refine (within_any _ _ _ _).mono ?_; rintro e w' ⟨rfl, rfl⟩) | (go_at_call 38; refine hcon.mono ?_; rintro e w' ⟨rfl, os, d, rfl⟩))
    go_ret
    exact ⟨by simpa using KK, _, _, rfl⟩

set_option maxHeartbeats 1000000 in
theorem sValid_any (a : Option Addr) (n c : Nat) (zs : List Int) (w : World) (hz : zs.length = n * 2) (hi : Ints w a zs) (hn : n ≤ 1000000000) :
    Calls Try.prog 14 #[.slice a n c] w fun e w' => e = .returned (.bool (pairsB n zs)) ∧ w = w' := by
  have HI := Lib.hid hi
  have HZ := Lib.hid hz
  clear hi hz
  go_enter Try.func14, Try.ntmps14
  go_wp2
  go_loop [3] (fun iv => ∃ j : Nat, j ≤ n ∧ iv = .int .i64 j ∧ Hid (∀ i, i < j → okP zs i = true)) (fun iv => n - (intOf iv).toNat)
  case atStart => exact ⟨0, Nat.zero_le _, rfl, fun i hi => absurd hi (Nat.not_lt_zero _)⟩
  case round =>
    obtain ⟨j, hj, rfl, HP⟩ := hrel
    by_cases hlt : j < n
    · have hlt' : (j : Int) < (n : Int) := by omega
      rcases HI.out with h0 | ⟨blk, off, rfl, hc⟩
      · have := HZ.out; rw [h0] at this; simp at this; omega
      have c0 := hc (j * 2) (by rw [HZ.out]; omega)
      have c1 := hc (j * 2 + 1) (by rw [HZ.out]; omega)
      rw [← Nat.add_assoc] at c1
      clear hc
      have HX : Hid (okP zs j = (inB (zs.getD (j * 2) 0) (-1000) 1000 && inB (zs.getD (j * 2 + 1) 0) (-1000) 1000)) := rfl
      generalize zs.getD (j * 2) 0 = x at c0 HX
      generalize zs.getD (j * 2 + 1) 0 = y at c1 HX
      cases h1 : inB x (-1000) 1000 <;> cases h2 : inB y (-1000) 1000
      case true.true =>
        have HY : Hid (okP zs j = true) := by show okP zs j = true; rw [HX.out, h1, h2]; rfl
        go_wp2_with (go_at_call 35; refine (l1In_any _ _ _ _).mono ?_; rintro e w' ⟨rfl, rfl⟩)
        go_round
        case rel =>
          refine ⟨j + 1, by omega, by go_num, fun i hi => ?_⟩
          by_cases hij : i = j
          · subst hij; exact HY.out
          · exact HP.out i (by omega)
        case measure => simp [intOf]; omega
      all_goals
        have HY : Hid (pairsB n zs = false) := by
          show pairsB n zs = false
          rw [pairsB, allB_f hlt (by rw [HX.out, h1, h2]; rfl), Bool.and_false]
        go_wp2_with (go_at_call 35; refine (l1In_any _ _ _ _).mono ?_; rintro e w' ⟨rfl, rfl⟩)
        go_ret
        exact ⟨by rw [HY.out]; rfl, rfl⟩
    · have hlt' : ¬ (j : Int) < (n : Int) := by omega
      obtain rfl : j = n := by omega
      have HY : Hid (pairsB j zs = inB j 1 20) := by
        show pairsB j zs = _
        rw [pairsB, allB_t.2 HP.out, Bool.and_true]
      go_wp2_with (go_at_call 35; refine (l1In_any _ _ _ _).mono ?_; rintro e w' ⟨rfl, rfl⟩)
      go_ret
      exact ⟨by rw [HY.out]; rfl, rfl⟩

end Go.Proofs.Ytfonccnpgedgfaa
