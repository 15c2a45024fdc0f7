/-
  Contracts of the function that repeats a frame (program and reference); the walk of its exact law. No condition.
-/
import Derived.Test.YtnflmbmhncndfaaFr2
namespace Go.Proofs.Ytnflmbmhncndfaa
open Go.RowKit

def rp (x y q : Int) : Nat → Int × Int × Int
  | 0 => (0, 0, 0)
  | k + 1 => (cmX (rp x y q k).1 (rp x y q k).2.1 (rp x y q k).2.2 x y q, cmY (rp x y q k).1 (rp x y q k).2.1 (rp x y q k).2.2 x y q, cmQ (rp x y q k).1 (rp x y q k).2.1 (rp x y q k).2.2 x y q)
def rX (x y q n : Int) : Int := (rp x y q n.toNat).1
def rY (x y q n : Int) : Int := (rp x y q n.toNat).2.1
def rQ (x y q n : Int) : Int := (rp x y q n.toNat).2.2
theorem rX_zero {x y q : Int} : rX x y q 0 = 0 := rfl
theorem rY_zero {x y q : Int} : rY x y q 0 = 0 := rfl
theorem rQ_zero {x y q : Int} : rQ x y q 0 = 0 := rfl
theorem rX_succ {x y q n : Int} (h : 0 ≤ n) : rX x y q (n + 1) = cmX (rX x y q n) (rY x y q n) (rQ x y q n) x y q := by unfold rX rY rQ; rw [show (n + 1).toNat = n.toNat + 1 by omega]; rfl
theorem rY_succ {x y q n : Int} (h : 0 ≤ n) : rY x y q (n + 1) = cmY (rX x y q n) (rY x y q n) (rQ x y q n) x y q := by unfold rX rY rQ; rw [show (n + 1).toNat = n.toNat + 1 by omega]; rfl
theorem rQ_succ {x y q n : Int} (h : 0 ≤ n) : rQ x y q (n + 1) = cmQ (rX x y q n) (rY x y q n) (rQ x y q n) x y q := by unfold rX rY rQ; rw [show (n + 1).toNat = n.toNat + 1 by omega]; rfl
def repB (x y q n : Int) : Bool := frB x y q && inB n 0 100
def repX (x y q n : Int) : Int := if repB x y q n = true then rX x y q n else 0
def repY (x y q n : Int) : Int := if repB x y q n = true then rY x y q n else 0
def repQ (x y q n : Int) : Int := if repB x y q n = true then rQ x y q n else 0
theorem plus_id' {w : World} {o : Obj} {os : Array Obj} {d : Nat} : (plus w os d).alloc o = plus ((plus w os d).alloc o) #[] d := by
  have : ((plus w os d).alloc o).drawn = d := rfl
  conv => lhs; rw [← plus_id (w := (plus w os d).alloc o), this]

set_option maxHeartbeats 2000000 in
theorem repeat_any (x y q n : Int) (w : World) :
    Calls Try.prog 27 #[.agg #[.int .i64 x, .int .i64 y, .int .i64 q], .int .i64 n] w fun e w' => e = .returned (.agg #[.int .i64 (repX x y q n), .int .i64 (repY x y q n), .int .i64 (repQ x y q n)]) ∧ Up w w' := by
  cases h : frB x y q <;> cases h' : inB n 0 100
  case true.true =>
    have HX : Hid (rX x y q n = repX x y q n ∧ rY x y q n = repY x y q n ∧ rQ x y q n = repQ x y q n) := by simp only [Hid, repX, repY, repQ, repB, h, h']; exact ⟨rfl, rfl, rfl⟩
    obtain ⟨hn0, hn1⟩ := inB_t.1 h'
    go_enter Try.func27, Try.ntmps27
    go_wp2_with (first | (go_at_call 15; refine (frameValid_any _ _ _ _).mono ?_; rintro e w1 ⟨rfl, os1, d1, rfl⟩) | (go_at_call 37; refine (within_any _ _ _ _).mono ?_; rintro e w' ⟨rfl, rfl⟩))
    go_loopw [17] (fun k wr => ∃ t : Int, 0 ≤ t ∧ t ≤ n ∧ k = .int .i64 t ∧ ∃ os d, wr = plus ((plus ((w.alloc (.cells #[.int .i64 x, .int .i64 y, .int .i64 q] 25)).alloc (.cells #[.int .i64 0, .int .i64 0, .int .i64 0] 25)) os1 d1).alloc (.cells #[.int .i64 (rX x y q t), .int .i64 (rY x y q t), .int .i64 (rQ x y q t)] 25)) os d) (fun k _ => (n - intOf k).toNat)
    case atStart => exact ⟨0, by omega, hn0, rfl, #[], d1, by rw [rX_zero, rY_zero, rQ_zero]; exact plus_id'⟩
    case round =>
      obtain ⟨t, ht1, ht2, rfl, os, d, rfl⟩ := hrel
      by_cases hlt : t < n
      · go_wp2_with (go_at_call 21; refine (compose_any _ _ _ _ _ _ _).mono ?_; rintro e w1 ⟨rfl, os2, d2, rfl⟩)
        go_roundw
        case rel => exact ⟨t + 1, by omega, by omega, rfl, _, _, by rw [rX_succ ht1, rY_succ ht1, rQ_succ ht1]⟩
        case measure => simp [intOf]; omega
      · obtain rfl : t = n := by omega
        go_wp2
        refine bodyPost_ret (v := .agg #[.int .i64 (rX x y q t), .int .i64 (rY x y q t), .int .i64 (rQ x y q t)]) (by simp [results, Try.results27, go_sem]) rfl ⟨ret_f HX.out.1 HX.out.2.1 HX.out.2.2, up_of_below ?_⟩
        repeat (first | with_reducible exact Below.refl _ _ | with_reducible apply below_alloc | with_reducible apply below_drw | with_reducible apply below_drew | with_reducible apply below_drewN | with_reducible apply below_plus | with_reducible apply below_set | (simp; done))
  all_goals
    have HX : Hid (0 = repX x y q n ∧ 0 = repY x y q n ∧ 0 = repQ x y q n) := by simp only [Hid, repX, repY, repQ, repB, h, h']; exact ⟨rfl, rfl, rfl⟩
    go_enter Try.func27, Try.ntmps27
    go_wp2_with (first | (go_at_call 15; refine (frameValid_any _ _ _ _).mono ?_; rintro e w1 ⟨rfl, os1, d1, rfl⟩) | (go_at_call 37; refine (within_any _ _ _ _).mono ?_; rintro e w' ⟨rfl, rfl⟩))
    refine bodyPost_ret (v := .agg #[.int .i64 0, .int .i64 0, .int .i64 0]) (by simp [results, Try.results27, go_sem]) rfl ⟨ret_f HX.out.1 HX.out.2.1 HX.out.2.2, up_of_below ?_⟩
    repeat (first | with_reducible exact Below.refl _ _ | with_reducible apply below_alloc | with_reducible apply below_drw | with_reducible apply below_drew | with_reducible apply below_drewN | with_reducible apply below_plus | with_reducible apply below_set | (simp; done))

set_option maxHeartbeats 2000000 in
theorem sRepeat_any (x y q n : Int) (w : World) :
    Calls Try.prog 26 #[.agg #[.int .i64 x, .int .i64 y, .int .i64 q], .int .i64 n] w fun e w' => e = .returned (.agg #[.int .i64 (repX x y q n), .int .i64 (repY x y q n), .int .i64 (repQ x y q n)]) ∧ Up w w' := by
  cases h : frB x y q <;> cases h' : inB n 0 100
  case true.true =>
    have HX : Hid (rX x y q n = repX x y q n ∧ rY x y q n = repY x y q n ∧ rQ x y q n = repQ x y q n) := by simp only [Hid, repX, repY, repQ, repB, h, h']; exact ⟨rfl, rfl, rfl⟩
    obtain ⟨hn0, hn1⟩ := inB_t.1 h'
    go_enter Try.func26, Try.ntmps26
    go_wp2_with (first | (go_at_call 13; refine (sFrameValid_any _ _ _ _).mono ?_; rintro e w1 ⟨rfl, os1, d1, rfl⟩) | (go_at_call 36; refine (l1In_any _ _ _ _).mono ?_; rintro e w' ⟨rfl, rfl⟩))
    go_loopw [6] (fun k wr => ∃ t : Int, 0 ≤ t ∧ t ≤ n ∧ k = .int .i64 t ∧ ∃ os d, wr = plus (((w.alloc (.cells #[.int .i64 x, .int .i64 y, .int .i64 q] 25)).alloc (.cells #[.int .i64 0, .int .i64 0, .int .i64 0] 25)).alloc (.cells #[.int .i64 (rX x y q t), .int .i64 (rY x y q t), .int .i64 (rQ x y q t)] 25)) os d) (fun k _ => (n - intOf k).toNat)
    case atStart => exact ⟨0, by omega, hn0, rfl, os1, d1, by rw [rX_zero, rY_zero, rQ_zero]⟩
    case round =>
      obtain ⟨t, ht1, ht2, rfl, os, d, rfl⟩ := hrel
      by_cases hlt : t < n
      · go_wp2_with (go_at_call 20; refine (sCompose_any _ _ _ _ _ _ _).mono ?_; rintro e w1 ⟨rfl, os2, d2, rfl⟩)
        go_roundw
        case rel => exact ⟨t + 1, by omega, by omega, rfl, _, _, by rw [rX_succ ht1, rY_succ ht1, rQ_succ ht1]⟩
        case measure => simp [intOf]; omega
      · obtain rfl : t = n := by omega
        go_wp2
        refine bodyPost_ret (v := .agg #[.int .i64 (rX x y q t), .int .i64 (rY x y q t), .int .i64 (rQ x y q t)]) (by simp [results, Try.results26, go_sem]) rfl ⟨ret_f HX.out.1 HX.out.2.1 HX.out.2.2, up_of_below ?_⟩
        repeat (first | with_reducible exact Below.refl _ _ | with_reducible apply below_alloc | with_reducible apply below_drw | with_reducible apply below_drew | with_reducible apply below_drewN | with_reducible apply below_plus | with_reducible apply below_set | (simp; done))
  all_goals
    have HX : Hid (0 = repX x y q n ∧ 0 = repY x y q n ∧ 0 = repQ x y q n) := by simp only [Hid, repX, repY, repQ, repB, h, h']; exact ⟨rfl, rfl, rfl⟩
    go_enter Try.func26, Try.ntmps26
    go_wp2_with (first | (go_at_call 13; refine (sFrameValid_any _ _ _ _).mono ?_; rintro e w1 ⟨rfl, os1, d1, rfl⟩) | (go_at_call 36; refine (l1In_any _ _ _ _).mono ?_; rintro e w' ⟨rfl, rfl⟩))
    refine bodyPost_ret (v := .agg #[.int .i64 0, .int .i64 0, .int .i64 0]) (by simp [results, Try.results26, go_sem]) rfl ⟨ret_f HX.out.1 HX.out.2.1 HX.out.2.2, up_of_below ?_⟩
    repeat (first | with_reducible exact Below.refl _ _ | with_reducible apply below_alloc | with_reducible apply below_drw | with_reducible apply below_drew | with_reducible apply below_drewN | with_reducible apply below_plus | with_reducible apply below_set | (simp; done))

set_option maxHeartbeats 400000 in
theorem exactRepeatFrame_any (x y q n : Int) (w : World) :
    Calls Try.prog 8 #[.agg #[.int .i64 x, .int .i64 y, .int .i64 q], .int .i64 n] w fun e w' => e = .returned (.bool true) ∧ Up w w' := by
  go_enter Try.func8, Try.ntmps8
  go_wp2_with (first | (go_at_call 14; refine (toFrame_any _ _ _ _).mono ?_; rintro e w1 ⟨rfl, os, d, rfl⟩) | (go_at_call 26; refine (sRepeat_any _ _ _ _ _).mono ?_; rintro e w1 ⟨rfl, os, d, rfl⟩) | (go_at_call 27; refine (repeat_any _ _ _ _ _).mono ?_; rintro e w1 ⟨rfl, os, d, rfl⟩) | (go_at_call 19; refine (eqFrame_any _ _ _ _ _ _ _ rfl rfl rfl).mono ?_; rintro e w1 ⟨rfl, os, d, rfl⟩))
  go_ret
  exact ⟨rfl, up_of_below (by repeat (first | with_reducible exact Below.refl _ _ | with_reducible apply below_alloc | with_reducible apply below_drw | with_reducible apply below_drew | with_reducible apply below_drewN | with_reducible apply below_plus | with_reducible apply below_set | (simp; done)))⟩

end Go.Proofs.Ytnflmbmhncndfaa
