/-
  Contracts of the functions on valid pairs (program and reference). Conditions: those that each theorem states.
-/
import Derived.Test.YtfonccnpgedgfaaLs
import Derived.Test.YtfonccnpgedgfaaPrP
import Derived.Test.YtfonccnpgedgfaaNum0
import Derived.Shelf.SlicesQ.IndexFunc
import Derived.Ground.SlgfProg
namespace Go.Proofs.Ytfonccnpgedgfaa
open Go.RowKit Go.Shelf Go.Lib

shelf_lay_g SlLaysH0.n8 Slgf 8 at Try 38 as Try.lc

def encE (x : Int × Int) : List Value := [.int .i64 x.1, .int .i64 x.2]
def badQ (x : Int × Int) : Bool := !inB x.1 (-1000) 1000 || !inB x.2 (-1000) 1000

set_option maxHeartbeats 400000 in
theorem bad_any (x y : Int) (w : World) :
    Calls Try.prog 39 #[.agg #[.int .i64 x, .int .i64 y]] w fun e w' => e = .returned (.bool (badQ (x, y))) ∧ Up w w' := by
  cases h1 : inB x (-1000) 1000 <;> cases h2 : inB y (-1000) 1000 <;>
  · have KK : ∀ b, badQ (x, y) = b → Ending.returned (.bool b) = .returned (.bool (badQ (x, y))) := fun b h => by rw [h]
    have KK := KK _ (by simp only [badQ, h1, h2]; rfl)
    go_enter Try.func39, Try.ntmps39
    go_wp2_with (go_at_call 37; refine (within_any _ _ _ _).mono ?_; rintro e w' ⟨rfl, rfl⟩)
    go_ret
    exact ⟨KK, up_of_below (by repeat (first | with_reducible exact Below.refl _ _ | with_reducible apply below_alloc | with_reducible apply below_drw | with_reducible apply below_drew | with_reducible apply below_drewN | with_reducible apply below_plus | with_reducible apply below_set | (simp; done)))⟩

theorem bad_pred (w : World) : PredBelow Try.prog 39 #[] (fun x => .agg (encE x).toArray) badQ w := fun W x hb => by
  refine (bad_any x.1 x.2 W).mono ?_
  rintro e w' ⟨rfl, hup⟩
  exact ⟨rfl, hb.trans (hup.below.mono hb.size)⟩

theorem allB_range (p : Nat → Bool) : ∀ n, allB p n = (List.range n).all p
  | 0 => rfl
  | n + 1 => by rw [allB, allB_range p n, List.range_succ, List.all_append]; simp
theorem any_bad (zs : List Int) (n : Nat) : ((((List.range n).map fun j => (pX zs j, pY zs j)).take n).any badQ) = !allB (okP zs) n := by
  rw [List.take_of_length_le (by simp), List.any_map, allB_range, List.not_all_eq_any_not]
  congr 1
  funext j
  simp [badQ, okP, Bool.not_and]

set_option maxHeartbeats 1000000 in
theorem valid_any (a : Option Addr) (n c : Nat) (zs : List Int) (w : World) (hz : zs.length = n * 2) (hi : Ints w a zs) (hn : n ≤ 1000000000) :
    Calls Try.prog 16 #[.slice a n c] w fun e w' => e = .returned (.bool (pairsB n zs)) ∧ Up w w' := by
  cases h1 : inB n 1 20
  · have KK : Ending.returned (.bool false) = .returned (.bool (pairsB n zs)) := by rw [pairsB, h1]; rfl
    go_enter Try.func16, Try.ntmps16
    go_wp2_with (go_at_call 37; refine (within_any _ _ _ _).mono ?_; rintro e w' ⟨rfl, rfl⟩)
    go_ret
    exact ⟨KK, up_of_below (Below.refl _ _)⟩
  · have hn1 := (inB_t.1 h1).1
    rcases hi with h0 | ⟨blk, off, rfl, hc⟩
    · rw [h0] at hz; simp at hz; omega
    have eg : ∀ args w, (callFunc 39 args).run Try.prog w = .ok (.enter 39 args) w := enters_of Try.func39 (by kernel_rfl) rfl
    have hb := World.block_lt_of_cell? _ _ (hc 0 (by omega))
    have hcon := AnyQ.slices_ContainsFunc Try.lc 2 Try.isAgg32 Try.sizeOf32 encE (fun _ => rfl) badQ 39 #[] eg blk off n c ((List.range n).map fun j => (pX zs j, pY zs j)) w (bad_pred w) (by simp) (by omega) hb (fun j hj i v hiv => by
      simp at hj
      have g0 := hc (j * 2) (by omega)
      have g1 := hc (j * 2 + 1) (by omega)
      rw [← Nat.add_assoc] at g1
      simp [hj, encE] at hiv
      match i, hiv with
      | 0, hiv => simp at hiv; rw [← hiv]; exact g0
      | 1, hiv => simp at hiv; rw [← hiv]; exact g1
      | i + 2, hiv => simp at hiv)
    rw [any_bad] at hcon
    change Calls Try.prog 38 _ _ _ at hcon
    have KK : Ending.returned (.bool (!!allB (okP zs) n)) = .returned (.bool (pairsB n zs)) := by rw [pairsB, h1]; simp
    generalize allB (okP zs) n = r at hcon KK
    clear hc hz
    go_enter Try.func16, Try.ntmps16
    go_wp2_with (first | (go_at_call 37; refine (within_any _ _ _ _).mono ?_; rintro e w' ⟨rfl, rfl⟩) | (go_at_call 38; refine hcon.mono ?_; rintro e w' ⟨rfl, hb'⟩))
    go_ret
    exact ⟨by simpa using KK, up_of_below hb'⟩

set_option maxHeartbeats 1000000 in
theorem sValid_any (a : Option Addr) (n c : Nat) (zs : List Int) (w : World) (hz : zs.length = n * 2) (hi : Ints w a zs) (hn : n ≤ 1000000000) :
    Calls Try.prog 14 #[.slice a n c] w fun e w' => e = .returned (.bool (pairsB n zs)) ∧ w = w' := by
  have HI := Lib.hid hi
  have HZ := Lib.hid hz
  clear hi hz
  go_enter Try.func14, Try.ntmps14
  go_wp2
  go_loop [3] (fun iv => ∃ j : Nat, j ≤ n ∧ iv = .int .i64 j ∧ Hid (∀ i, i < j → okP zs i = true)) (fun iv => n - (intOf iv).toNat)
  case atStart => exact ⟨0, Nat.zero_le _, rfl, fun i hi => absurd hi (Nat.not_lt_zero _)⟩
  case round =>
    obtain ⟨j, hj, rfl, HP⟩ := hrel
    by_cases hlt : j < n
    · have hlt' : (j : Int) < (n : Int) := by omega
      rcases HI.out with h0 | ⟨blk, off, rfl, hc⟩
      · have := HZ.out; rw [h0] at this; simp at this; omega
      have c0 := hc (j * 2) (by rw [HZ.out]; omega)
      have c1 := hc (j * 2 + 1) (by rw [HZ.out]; omega)
      rw [← Nat.add_assoc] at c1
      clear hc
      have HX : Hid (okP zs j = (inB (zs.getD (j * 2) 0) (-1000) 1000 && inB (zs.getD (j * 2 + 1) 0) (-1000) 1000)) := rfl
      generalize zs.getD (j * 2) 0 = x at c0 HX
      generalize zs.getD (j * 2 + 1) 0 = y at c1 HX
      cases h1 : inB x (-1000) 1000 <;> cases h2 : inB y (-1000) 1000
      case true.true =>
        have HY : Hid (okP zs j = true) := by show okP zs j = true; rw [HX.out, h1, h2]; rfl
        go_wp2_with (go_at_call 35; refine (l1In_any _ _ _ _).mono ?_; rintro e w' ⟨rfl, rfl⟩)
        go_round
        case rel =>
          refine ⟨j + 1, by omega, by go_num, fun i hi => ?_⟩
          by_cases hij : i = j
          · subst hij; exact HY.out
          · exact HP.out i (by omega)
        case measure => simp [intOf]; omega
      all_goals
        have HY : Hid (pairsB n zs = false) := by
          show pairsB n zs = false
          rw [pairsB, allB_f hlt (by rw [HX.out, h1, h2]; rfl), Bool.and_false]
        go_wp2_with (go_at_call 35; refine (l1In_any _ _ _ _).mono ?_; rintro e w' ⟨rfl, rfl⟩)
        go_ret
        exact ⟨by rw [HY.out]; rfl, rfl⟩
    · have hlt' : ¬ (j : Int) < (n : Int) := by omega
      obtain rfl : j = n := by omega
      have HY : Hid (pairsB j zs = inB j 1 20) := by
        show pairsB j zs = _
        rw [pairsB, allB_t.2 HP.out, Bool.and_true]
      go_wp2_with (go_at_call 35; refine (l1In_any _ _ _ _).mono ?_; rintro e w' ⟨rfl, rfl⟩)
      go_ret
      exact ⟨by rw [HY.out]; rfl, rfl⟩

end Go.Proofs.Ytfonccnpgedgfaa
