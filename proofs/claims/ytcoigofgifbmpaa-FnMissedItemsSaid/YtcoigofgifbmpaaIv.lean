/-
  Contracts of the functions on valid items (program and reference). Conditions: those that each theorem states.
-/
import Derived.Test.YtcoigofgifbmpaaLs
import Derived.Test.YtcoigofgifbmpaaNum0
import Derived.Shelf.Abstract
namespace Go.Proofs.Ytcoigofgifbmpaa
open Go.RowKit

/-- The place of item j and the time that it takes. -/
def pX (zs : List Int) (j : Nat) : Int := zs.getD (j * 2) 0
def pY (zs : List Int) (j : Nat) : Int := zs.getD (j * 2 + 1) 0
def okI (zs : List Int) (j : Nat) : Bool := inB (pX zs j) (-10000) 10000 && inB (pY zs j) 1 100
def itemsB (n : Nat) (zs : List Int) : Bool := decide (n ≤ 8) && allB (okI zs) n
theorem okI_t {zs : List Int} {j : Nat} : okI zs j = true ↔ (-10000 ≤ pX zs j ∧ pX zs j ≤ 10000) ∧ 1 ≤ pY zs j ∧ pY zs j ≤ 100 := by simp [okI, inB_t]
theorem itemsB_t {n : Nat} {zs : List Int} : itemsB n zs = true ↔ n ≤ 8 ∧ ∀ j, j < n → okI zs j = true := by simp only [itemsB, Bool.and_eq_true, allB_t, decide_eq_true_eq]
/-- Pair j of a list that reads. -/
theorem Ints.pair {w : World} {a : Option Addr} {n : Nat} {zs : List Int} (h : Ints w a zs) (hz : zs.length = n * 2) {j : Nat} (hj : j < n) :
    ∃ blk off, a = some ⟨blk, off, none⟩ ∧ blk < w.heap.size ∧ w.cell? ⟨blk, off + j * 2, none⟩ = some (.int .i64 (pX zs j)) ∧ w.cell? ⟨blk, off + j * 2 + 1, none⟩ = some (.int .i64 (pY zs j)) := by
  rcases h with h0 | ⟨blk, off, rfl, hc⟩
  · rw [h0] at hz; simp at hz; omega
  have c0 := hc (j * 2) (by omega)
  have c1 := hc (j * 2 + 1) (by omega)
  rw [← Nat.add_assoc] at c1
  exact ⟨blk, off, rfl, World.block_lt_of_cell? _ _ c0, c0, c1⟩

def badQ (x : Int × Int) : Bool := !inB x.1 (-10000) 10000 || !inB x.2 1 100

set_option maxHeartbeats 400000 in
theorem bad_any (x y : Int) (w : World) :
    Calls Try.prog 40 #[.agg #[.int .i64 x, .int .i64 y]] w fun e w' => e = .returned (.bool (badQ (x, y))) ∧ Up w w' := by
  cases h1 : inB x (-10000) 10000 <;> cases h2 : inB y 1 100 <;>
  · have KK : ∀ b, badQ (x, y) = b → Ending.returned (.bool b) = .returned (.bool (badQ (x, y))) := fun b h => by rw [h]
    have KK := KK _ (by simp only [badQ, h1, h2]; rfl)
    go_enter Try.func40, Try.ntmps40
    go_wp2_with (go_at_call 37; refine (within_any _ _ _ _).mono ?_; rintro e w' ⟨rfl, rfl⟩)
    go_ret
    exact ⟨KK, up_of_below (by repeat (first | with_reducible exact Below.refl _ _ | with_reducible apply below_alloc | with_reducible apply below_drw | with_reducible apply below_drew | with_reducible apply below_drewN | with_reducible apply below_plus | with_reducible apply below_set | (simp; done)))⟩

theorem bad_enters (args : Array Value) (w : World) : (callFunc 40 args).run Try.prog w = .ok (.enter 40 args) w := (enters_of Try.func40 (by kernel_rfl) rfl) args w
theorem bad_ok (zs : List Int) (j : Nat) : badQ (pX zs j, pY zs j) = !okI zs j := by simp [badQ, okI, Bool.not_and]

set_option maxHeartbeats 1000000 in
theorem index_any (a : Option Addr) (n c : Nat) (zs : List Int) (w : World) (hz : zs.length = n * 2) (hi : Ints w a zs) (hn : n ≤ 1000000000) :
    Calls Try.prog 47 #[.slice a n c, .func (.func 40) #[] #[]] w fun e w' => ∃ r : Int, e = .returned (.int .i64 r) ∧ decide (0 ≤ r) = (!allB (okI zs) n) ∧ Up w w' := by
  have HI := Lib.hid hi
  have HZ := Lib.hid hz
  have eg := bad_enters
  clear hi hz
  go_enter Try.func47, Try.ntmps47
  go_wp2
  go_loopw [8] (fun iv wr => ∃ j : Nat, j ≤ n ∧ iv = .int .i64 j ∧ Hid (∀ i, i < j → okI zs i = true) ∧ ∃ os d, wr = plus w os d) (fun iv _ => n - (intOf iv).toNat)
  case atStart => exact ⟨0, Nat.zero_le _, rfl, fun i hi => absurd hi (Nat.not_lt_zero _), #[], _, plus_id.symm⟩
  case round =>
    obtain ⟨j, hj, rfl, HP, os, d, rfl⟩ := hrel
    by_cases hlt : j < n
    · have hlt' : (j : Int) < (n : Int) := by omega
      obtain ⟨blk, off, rfl, hb, c0, c1⟩ := HI.out.pair HZ.out hlt
      have hbad := fun W => bad_any (pX zs j) (pY zs j) W
      have hok := bad_ok zs j
      cases hq : okI zs j <;> rw [hq] at hok <;> rw [hok] at hbad <;> clear hok
      · have HY : Hid (allB (okI zs) n = false) := allB_f hlt hq
        clear hq
        generalize pX zs j = x at c0 hbad
        generalize pY zs j = y at c1 hbad
        go_wp2_with (first | (go_at_call 40; refine (hbad _).mono ?_; rintro e w1 ⟨rfl, os, d, rfl⟩))
        go_ret
        exact ⟨j, rfl, by rw [HY.out]; simp, _, _, rfl⟩
      · have HY := Lib.hid hq
        clear hq
        generalize pX zs j = x at c0 hbad
        generalize pY zs j = y at c1 hbad
        go_wp2_with (first | (go_at_call 40; refine (hbad _).mono ?_; rintro e w1 ⟨rfl, os, d, rfl⟩))
        go_roundw
        case rel =>
          refine ⟨j + 1, by omega, by go_num, fun i hi => ?_, _, _, rfl⟩
          by_cases hij : i = j
          · subst hij; exact HY.out
          · exact HP.out i (by omega)
        case measure => simp [intOf]; omega
    · have hlt' : ¬ (j : Int) < (n : Int) := by omega
      obtain rfl : j = n := by omega
      have HY : Hid (allB (okI zs) j = true) := allB_t.2 HP.out
      go_wp2
      go_ret
      exact ⟨-1, rfl, by rw [HY.out]; rfl, _, _, rfl⟩

set_option maxHeartbeats 400000 in
theorem contains_any (a : Option Addr) (n c : Nat) (zs : List Int) (w : World) (hz : zs.length = n * 2) (hi : Ints w a zs) (hn : n ≤ 1000000000) :
    Calls Try.prog 39 #[.slice a n c, .func (.func 40) #[] #[]] w fun e w' => e = .returned (.bool (!allB (okI zs) n)) ∧ Up w w' := by
  have H := Lib.hid (index_any a n c zs w hz hi hn)
  clear hz hi
  generalize allB (okI zs) n = q at H ⊢
  go_enter Try.func39, Try.ntmps39
  go_wp2_with (first | (go_at_call 47; refine H.out.mono ?_; rintro e w1 ⟨r, rfl, hr, hup⟩))
  all_goals
    go_ret
    exact ⟨by rw [← hr]; simp_all, hup⟩

set_option maxHeartbeats 1000000 in
theorem valid_any (a : Option Addr) (n c : Nat) (zs : List Int) (w : World) (hz : zs.length = n * 2) (hi : Ints w a zs) (hn : n ≤ 1000000000) :
    Calls Try.prog 17 #[.slice a n c] w fun e w' => e = .returned (.bool (itemsB n zs)) ∧ Up w w' := by
  by_cases h1 : n ≤ 8
  · have h1' : (n : Int) ≤ 8 := by omega
    have hcon := contains_any a n c zs w hz hi hn
    have KK : Ending.returned (.bool (!!allB (okI zs) n)) = .returned (.bool (itemsB n zs)) := by rw [itemsB, decide_eq_true h1]; simp
    generalize allB (okI zs) n = r at hcon KK
    clear hi hz
    go_enter Try.func17, Try.ntmps17
    go_wp2_with (first | (go_at_call 39; refine hcon.mono ?_; rintro e w' ⟨rfl, os, d, rfl⟩))
    go_ret
    exact ⟨by simpa using KK, _, _, rfl⟩
  · have h1' : ¬ (n : Int) ≤ 8 := by omega
    have KK : Ending.returned (.bool false) = .returned (.bool (itemsB n zs)) := by rw [itemsB, decide_eq_false h1]; rfl
    go_enter Try.func17, Try.ntmps17
    go_wp2
    go_ret
    exact ⟨by simpa using KK, up_of_below (Below.refl _ _)⟩

set_option maxHeartbeats 1000000 in
theorem sValid_any (a : Option Addr) (n c : Nat) (zs : List Int) (w : World) (hz : zs.length = n * 2) (hi : Ints w a zs) (hn : n ≤ 1000000000) :
    Calls Try.prog 15 #[.slice a n c] w fun e w' => e = .returned (.bool (itemsB n zs)) ∧ w = w' := by
  have HI := Lib.hid hi
  have HZ := Lib.hid hz
  clear hi hz
  go_enter Try.func15, Try.ntmps15
  go_wp2
  go_loop [3] (fun iv => ∃ j : Nat, j ≤ n ∧ iv = .int .i64 j ∧ Hid (∀ i, i < j → okI zs i = true)) (fun iv => n - (intOf iv).toNat)
  case atStart => exact ⟨0, Nat.zero_le _, rfl, fun i hi => absurd hi (Nat.not_lt_zero _)⟩
  case round =>
    obtain ⟨j, hj, rfl, HP⟩ := hrel
    by_cases hlt : j < n
    · have hlt' : (j : Int) < (n : Int) := by omega
      rcases HI.out with h0 | ⟨blk, off, rfl, hc⟩
      · have := HZ.out; rw [h0] at this; simp at this; omega
      have c0 := hc (j * 2) (by rw [HZ.out]; omega)
      have c1 := hc (j * 2 + 1) (by rw [HZ.out]; omega)
      rw [← Nat.add_assoc] at c1
      clear hc
      have HX : Hid (okI zs j = (inB (zs.getD (j * 2) 0) (-10000) 10000 && inB (zs.getD (j * 2 + 1) 0) 1 100)) := rfl
      generalize zs.getD (j * 2) 0 = x at c0 HX
      generalize zs.getD (j * 2 + 1) 0 = y at c1 HX
      cases h1 : inB x (-10000) 10000 <;> cases h2 : inB y 1 100
      case true.true =>
        have HY : Hid (okI zs j = true) := by show okI zs j = true; rw [HX.out, h1, h2]; rfl
        go_wp2_with (go_at_call 34; refine (l1In_any _ _ _ _).mono ?_; rintro e w' ⟨rfl, rfl⟩)
        go_round
        case rel =>
          refine ⟨j + 1, by omega, by go_num, fun i hi => ?_⟩
          by_cases hij : i = j
          · subst hij; exact HY.out
          · exact HP.out i (by omega)
        case measure => simp [intOf]; omega
      all_goals
        have HY : Hid (itemsB n zs = false) := by
          show itemsB n zs = false
          rw [itemsB, allB_f hlt (by rw [HX.out, h1, h2]; rfl), Bool.and_false]
        go_wp2_with (go_at_call 34; refine (l1In_any _ _ _ _).mono ?_; rintro e w' ⟨rfl, rfl⟩)
        go_ret
        exact ⟨by rw [HY.out]; rfl, rfl⟩
    · have hlt' : ¬ (j : Int) < (n : Int) := by omega
      obtain rfl : j = n := by omega
      have HY : Hid (itemsB j zs = decide (j ≤ 8)) := by
        show itemsB j zs = _
        rw [itemsB, allB_t.2 HP.out, Bool.and_true]
      by_cases h8 : j ≤ 8
      · have h8' : (j : Int) ≤ 8 := by omega
        go_wp2
        go_ret
        exact ⟨by rw [HY.out, decide_eq_true h8]; rfl, rfl⟩
      · have h8' : ¬ (j : Int) ≤ 8 := by omega
        go_wp2
        go_ret
        exact ⟨by rw [HY.out, decide_eq_false h8]; rfl, rfl⟩

end Go.Proofs.Ytcoigofgifbmpaa
