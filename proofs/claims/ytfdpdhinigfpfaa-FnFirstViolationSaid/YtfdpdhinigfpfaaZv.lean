/-
  Contracts of the functions on valid zones and on limits of speed (program and reference). Conditions: those that each theorem states.
-/
import Derived.Test.YtfdpdhinigfpfaaLz
import Derived.Test.YtfdpdhinigfpfaaNum0
import Derived.Shelf.Abstract
namespace Go.Proofs.Ytfdpdhinigfpfaa
open Go.RowKit

def ptB (x y : Int) : Bool := inB x (-10000) 10000 && inB y (-10000) 10000
theorem ptB_t {x y : Int} : ptB x y = true ↔ (-10000 ≤ x ∧ x ≤ 10000) ∧ -10000 ≤ y ∧ y ≤ 10000 := by simp [ptB, inB_t]
def okZ (zs : List Int) (j : Nat) : Bool := ptB (zX zs j) (zY zs j) && (inB (zR zs j) 0 10000 && inB (zS zs j) 0 200)
theorem okZ_t {zs : List Int} {j : Nat} : okZ zs j = true ↔ ((-10000 ≤ zX zs j ∧ zX zs j ≤ 10000) ∧ -10000 ≤ zY zs j ∧ zY zs j ≤ 10000) ∧ (0 ≤ zR zs j ∧ zR zs j ≤ 10000) ∧ 0 ≤ zS zs j ∧ zS zs j ≤ 200 := by simp [okZ, inB_t, ptB_t]
def zonesB (n : Nat) (zs : List Int) : Bool := decide (n ≤ 6) && allB (okZ zs) n
theorem zonesB_t {n : Nat} {zs : List Int} : zonesB n zs = true ↔ n ≤ 6 ∧ ∀ j, j < n → okZ zs j = true := by simp only [zonesB, Bool.and_eq_true, allB_t, decide_eq_true_eq]

set_option maxHeartbeats 400000 in
theorem point_any (x y : Int) (w : World) :
    Calls Try.prog 47 #[.agg #[.int .i64 x, .int .i64 y]] w fun e w' => e = .returned (.bool (ptB x y)) ∧ Up w w' := by
  cases h1 : inB x (-10000) 10000 <;> cases h2 : inB y (-10000) 10000 <;>
  · have KK : ∀ b, ptB x y = b → Ending.returned (.bool b) = .returned (.bool (ptB x y)) := fun b h => by rw [h]
    have KK := KK _ (by simp only [ptB, h1, h2]; rfl)
    go_enter Try.func47, Try.ntmps47
    go_wp2_with (go_at_call 38; refine (within_any _ _ _ _).mono ?_; rintro e w' ⟨rfl, rfl⟩)
    go_ret
    exact ⟨KK, up_of_below (by repeat (first | with_reducible exact Below.refl _ _ | with_reducible apply below_alloc | with_reducible apply below_drw | with_reducible apply below_drew | with_reducible apply below_drewN | with_reducible apply below_plus | with_reducible apply below_set | (simp; done)))⟩

set_option maxHeartbeats 400000 in
theorem sPoint_any (x y : Int) (w : World) :
    Calls Try.prog 48 #[.agg #[.int .i64 x, .int .i64 y]] w fun e w' => e = .returned (.bool (ptB x y)) ∧ Up w w' := by
  cases h1 : inB x (-10000) 10000 <;> cases h2 : inB y (-10000) 10000 <;>
  · have KK : ∀ b, ptB x y = b → Ending.returned (.bool b) = .returned (.bool (ptB x y)) := fun b h => by rw [h]
    have KK := KK _ (by simp only [ptB, h1, h2]; rfl)
    go_enter Try.func48, Try.ntmps48
    go_wp2_with (go_at_call 37; refine (l1In_any _ _ _ _).mono ?_; rintro e w' ⟨rfl, rfl⟩)
    go_ret
    exact ⟨KK, up_of_below (by repeat (first | with_reducible exact Below.refl _ _ | with_reducible apply below_alloc | with_reducible apply below_drw | with_reducible apply below_drew | with_reducible apply below_drewN | with_reducible apply below_plus | with_reducible apply below_set | (simp; done)))⟩

def badQ (x y r s : Int) : Bool := !ptB x y || (!inB r 0 10000 || !inB s 0 200)

set_option maxHeartbeats 1000000 in
theorem bad_any (x y r s : Int) (w : World) :
    Calls Try.prog 46 #[.agg #[.int .i64 x, .int .i64 y, .int .i64 r, .int .i64 s]] w fun e w' => e = .returned (.bool (badQ x y r s)) ∧ Up w w' := by
  have hpt := fun W => point_any x y W
  have hb : ∀ b, ptB x y = b → badQ x y r s = (!b || (!inB r 0 10000 || !inB s 0 200)) := fun b h => by rw [badQ, h]
  cases h0 : ptB x y <;> cases h1 : inB r 0 10000 <;> cases h2 : inB s 0 200 <;>
  · have KK := hb _ h0
    rw [h1, h2] at KK
    have KV := Lib.hid KK
    rw [h0] at hpt
    clear hb KK h0
    go_enter Try.func46, Try.ntmps46
    go_wp2_with (first | (go_at_call 38; refine (within_any _ _ _ _).mono ?_; rintro e w' ⟨rfl, rfl⟩) | (go_at_call 47; refine (hpt _).mono ?_; rintro e w1 ⟨rfl, os, d, rfl⟩))
    go_ret
    exact ⟨by rw [KV.out]; rfl, up_of_below (by repeat (first | with_reducible exact Below.refl _ _ | with_reducible apply below_alloc | with_reducible apply below_drw | with_reducible apply below_drew | with_reducible apply below_drewN | with_reducible apply below_plus | with_reducible apply below_set | (simp; done)))⟩

theorem bad_enters (args : Array Value) (w : World) : (callFunc 46 args).run Try.prog w = .ok (.enter 46 args) w := (enters_of Try.func46 (by kernel_rfl) rfl) args w
theorem bad_ok (zs : List Int) (j : Nat) : badQ (zX zs j) (zY zs j) (zR zs j) (zS zs j) = !okZ zs j := by simp [badQ, okZ, Bool.not_and]

set_option maxHeartbeats 1000000 in
theorem index_any (a : Option Addr) (n c : Nat) (zs : List Int) (w : World) (hz : zs.length = n * 4) (hi : Ints w a zs) (hn : n ≤ 1000000000) :
    Calls Try.prog 58 #[.slice a n c, .func (.func 46) #[] #[]] w fun e w' => ∃ r : Int, e = .returned (.int .i64 r) ∧ decide (0 ≤ r) = (!allB (okZ zs) n) ∧ Up w w' := by
  have HI := Lib.hid hi
  have HZ := Lib.hid hz
  have eg := bad_enters
  clear hi hz
  go_enter Try.func58, Try.ntmps58
  go_wp2
  go_loopw [8] (fun iv wr => ∃ j : Nat, j ≤ n ∧ iv = .int .i64 j ∧ Hid (∀ i, i < j → okZ zs i = true) ∧ ∃ os d, wr = plus w os d) (fun iv _ => n - (intOf iv).toNat)
  case atStart => exact ⟨0, Nat.zero_le _, rfl, fun i hi => absurd hi (Nat.not_lt_zero _), #[], _, plus_id.symm⟩
  case round =>
    obtain ⟨j, hj, rfl, HP, os, d, rfl⟩ := hrel
    by_cases hlt : j < n
    · have hlt' : (j : Int) < (n : Int) := by omega
      obtain ⟨blk, off, rfl, hb, c0, c1, c2, c3⟩ := HI.out.zone HZ.out hlt
      have hbad := fun W => bad_any (zX zs j) (zY zs j) (zR zs j) (zS zs j) W
      have hok := bad_ok zs j
      cases hq : okZ zs j <;> rw [hq] at hok <;> rw [hok] at hbad <;> clear hok
      · have HY : Hid (allB (okZ zs) n = false) := allB_f hlt hq
        clear hq
        generalize zX zs j = x at c0 hbad
        generalize zY zs j = y at c1 hbad
        generalize zR zs j = r at c2 hbad
        generalize zS zs j = s at c3 hbad
        go_wp2_with (first | (go_at_call 46; refine (hbad _).mono ?_; rintro e w1 ⟨rfl, os, d, rfl⟩))
        go_ret
        exact ⟨j, rfl, by rw [HY.out]; simp, _, _, rfl⟩
      · have HY := Lib.hid hq
        clear hq
        generalize zX zs j = x at c0 hbad
        generalize zY zs j = y at c1 hbad
        generalize zR zs j = r at c2 hbad
        generalize zS zs j = s at c3 hbad
        go_wp2_with (first | (go_at_call 46; refine (hbad _).mono ?_; rintro e w1 ⟨rfl, os, d, rfl⟩))
        go_roundw
        case rel =>
          refine ⟨j + 1, by omega, by go_num, fun i hi => ?_, _, _, rfl⟩
          by_cases hij : i = j
          · subst hij; exact HY.out
          · exact HP.out i (by omega)
        case measure => simp [intOf]; omega
    · have hlt' : ¬ (j : Int) < (n : Int) := by omega
      obtain rfl : j = n := by omega
      have HY : Hid (allB (okZ zs) j = true) := allB_t.2 HP.out
      go_wp2
      go_ret
      exact ⟨-1, rfl, by rw [HY.out]; rfl, _, _, rfl⟩

set_option maxHeartbeats 400000 in
theorem contains_any (a : Option Addr) (n c : Nat) (zs : List Int) (w : World) (hz : zs.length = n * 4) (hi : Ints w a zs) (hn : n ≤ 1000000000) :
    Calls Try.prog 45 #[.slice a n c, .func (.func 46) #[] #[]] w fun e w' => e = .returned (.bool (!allB (okZ zs) n)) ∧ Up w w' := by
  have H := Lib.hid (index_any a n c zs w hz hi hn)
  clear hz hi
  generalize allB (okZ zs) n = q at H ⊢
  go_enter Try.func45, Try.ntmps45
  go_wp2_with (first | (go_at_call 58; refine H.out.mono ?_; rintro e w1 ⟨r, rfl, hr, hup⟩))
  all_goals
    go_ret
    exact ⟨by rw [← hr]; simp_all, hup⟩

set_option maxHeartbeats 1000000 in
theorem zvalid_any (a : Option Addr) (n c : Nat) (zs : List Int) (w : World) (hz : zs.length = n * 4) (hi : Ints w a zs) (hn : n ≤ 1000000000) :
    Calls Try.prog 21 #[.slice a n c] w fun e w' => e = .returned (.bool (zonesB n zs)) ∧ Up w w' := by
  by_cases h1 : n ≤ 6
  · have h1' : (n : Int) ≤ 6 := by omega
    have hcon := contains_any a n c zs w hz hi hn
    have KK : Ending.returned (.bool (!!allB (okZ zs) n)) = .returned (.bool (zonesB n zs)) := by rw [zonesB, decide_eq_true h1]; simp
    generalize allB (okZ zs) n = r at hcon KK
    clear hi hz
    go_enter Try.func21, Try.ntmps21
    go_wp2_with (first | (go_at_call 45; refine hcon.mono ?_; rintro e w' ⟨rfl, os, d, rfl⟩))
    go_ret
    exact ⟨by simpa using KK, _, _, rfl⟩
  · have h1' : ¬ (n : Int) ≤ 6 := by omega
    have KK : Ending.returned (.bool false) = .returned (.bool (zonesB n zs)) := by rw [zonesB, decide_eq_false h1]; rfl
    go_enter Try.func21, Try.ntmps21
    go_wp2
    go_ret
    exact ⟨by simpa using KK, up_of_below (Below.refl _ _)⟩

set_option maxHeartbeats 2000000 in
theorem sZvalid_any (a : Option Addr) (n c : Nat) (zs : List Int) (w : World) (hz : zs.length = n * 4) (hi : Ints w a zs) (hn : n ≤ 1000000000) :
    Calls Try.prog 22 #[.slice a n c] w fun e w' => e = .returned (.bool (zonesB n zs)) ∧ Up w w' := by
  have HI := Lib.hid hi
  have HZ := Lib.hid hz
  clear hi hz
  go_enter Try.func22, Try.ntmps22
  go_wp2
  go_loopw [3] (fun iv wr => ∃ j : Nat, j ≤ n ∧ iv = .int .i64 j ∧ Hid (∀ i, i < j → okZ zs i = true) ∧ ∃ os d, wr = plus w os d) (fun iv _ => n - (intOf iv).toNat)
  case atStart => exact ⟨0, Nat.zero_le _, rfl, fun i hi => absurd hi (Nat.not_lt_zero _), #[], _, plus_id.symm⟩
  case round =>
    obtain ⟨j, hj, rfl, HP, os, d, rfl⟩ := hrel
    by_cases hlt : j < n
    · have hlt' : (j : Int) < (n : Int) := by omega
      obtain ⟨blk, off, rfl, hb, c0, c1, c2, c3⟩ := HI.out.zone HZ.out hlt
      have hpt := fun W => sPoint_any (zX zs j) (zY zs j) W
      have HX : ∀ b, ptB (zX zs j) (zY zs j) = b → Hid (okZ zs j = (b && (inB (zR zs j) 0 10000 && inB (zS zs j) 0 200))) := fun b h => by show okZ zs j = _; rw [okZ, h]
      cases h0 : ptB (zX zs j) (zY zs j)
      all_goals
        have HX2 := HX _ h0
        rw [h0] at hpt
        clear HX h0
        generalize zX zs j = x at c0 hpt
        generalize zY zs j = y at c1 hpt
        generalize zR zs j = r at c2 HX2
        generalize zS zs j = s at c3 HX2
        cases h1 : inB r 0 10000 <;> cases h2 : inB s 0 200
        all_goals
          rw [h1, h2] at HX2
          first
            | (have HY : Hid (okZ zs j = true) := HX2.out.trans rfl
               go_wp2_with (first | (go_at_call 37; refine (l1In_any _ _ _ _).mono ?_; rintro e w' ⟨rfl, rfl⟩) | (go_at_call 48; refine (hpt _).mono ?_; rintro e w1 ⟨rfl, os, d, rfl⟩))
               go_roundw
               case rel =>
                 refine ⟨j + 1, by omega, by go_num, fun i hi => ?_, _, _, rfl⟩
                 by_cases hij : i = j
                 · subst hij; exact HY.out
                 · exact HP.out i (by omega)
               case measure => simp [intOf]; omega)
            | (have HY : Hid (zonesB n zs = false) := by
                 show zonesB n zs = false
                 rw [zonesB, allB_f hlt (HX2.out.trans rfl), Bool.and_false]
               go_wp2_with (first | (go_at_call 37; refine (l1In_any _ _ _ _).mono ?_; rintro e w' ⟨rfl, rfl⟩) | (go_at_call 48; refine (hpt _).mono ?_; rintro e w1 ⟨rfl, os, d, rfl⟩))
               go_ret
               exact ⟨by rw [HY.out]; rfl, _, _, rfl⟩)
    · have hlt' : ¬ (j : Int) < (n : Int) := by omega
      obtain rfl : j = n := by omega
      have HY : Hid (zonesB j zs = decide (j ≤ 6)) := by
        show zonesB j zs = _
        rw [zonesB, allB_t.2 HP.out, Bool.and_true]
      by_cases h8 : j ≤ 6
      · have h8' : (j : Int) ≤ 6 := by omega
        go_wp2
        go_ret
        exact ⟨by rw [HY.out, decide_eq_true h8]; rfl, _, _, rfl⟩
      · have h8' : ¬ (j : Int) ≤ 6 := by omega
        go_wp2
        go_ret
        exact ⟨by rw [HY.out, decide_eq_false h8]; rfl, _, _, rfl⟩

end Go.Proofs.Ytfdpdhinigfpfaa
