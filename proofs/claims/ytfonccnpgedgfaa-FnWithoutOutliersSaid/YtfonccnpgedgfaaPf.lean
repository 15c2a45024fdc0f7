/-
  Contracts of the functions on offsets and their errors (program and reference). Conditions: those that each theorem states.
-/
import Derived.Test.YtfonccnpgedgfaaPv
import Derived.Test.YtfonccnpgedgfaaFloor
namespace Go.Proofs.Ytfonccnpgedgfaa
open Go.RowKit

theorem errS_succ (zs : List Int) (o : Int) (j : Nat) : errS zs o (j + 1) = errS zs o j + (pD zs j - o) * (pD zs j - o) := rfl
theorem sumD_succ (zs : List Int) (j : Nat) : sumD zs (j + 1) = sumD zs j + pD zs j := rfl
set_option maxHeartbeats 2000000 in
theorem err_any (a : Option Addr) (n c : Nat) (zs : List Int) (o : Int) (w : World) (hz : zs.length = n * 2) (hi : Ints w a zs) (hn : n ≤ 1000000000) :
    Calls Try.prog 20 #[.slice a n c, .int .i64 o] w fun e w' => e = .returned (.int .i64 (errF zs o n)) ∧ Up w w' := by
  have hv := fun W h => valid_any a n c zs W hz h hn
  cases hp : pairsB n zs <;> rw [hp] at hv
  · have HF : Hid (errF zs o n = -1) := by show errF zs o n = -1; rw [errF, errB, hp]; rfl
    go_enter Try.func20, Try.ntmps20
    go_wp2_with (first | (go_at_call 16; refine (hv _ hi).mono ?_; rintro e w1 ⟨rfl, os, d, rfl⟩) | (go_at_call 16; refine (hv _ hi).mono ?_; rintro e w1 ⟨rfl, rfl⟩))
    go_ret
    exact ⟨by rw [HF.out]; rfl, up_of_below (by repeat (first | with_reducible exact Below.refl _ _ | with_reducible apply below_alloc | with_reducible apply below_drw | with_reducible apply below_drew | with_reducible apply below_drewN | with_reducible apply below_plus | with_reducible apply below_set | (simp; done)))⟩
  · cases ho : inB o (-2000) 2000
    · have HF : Hid (errF zs o n = -1) := by show errF zs o n = -1; rw [errF, errB, hp, ho]; rfl
      go_enter Try.func20, Try.ntmps20
      go_wp2_with (first | (go_at_call 16; refine (hv _ hi).mono ?_; rintro e w1 ⟨rfl, os, d, rfl⟩) | (go_at_call 16; refine (hv _ hi).mono ?_; rintro e w1 ⟨rfl, rfl⟩) | (go_at_call 37; refine (within_any _ _ _ _).mono ?_; rintro e w' ⟨rfl, rfl⟩))
      go_ret
      exact ⟨by rw [HF.out]; rfl, up_of_below (by repeat (first | with_reducible exact Below.refl _ _ | with_reducible apply below_alloc | with_reducible apply below_drw | with_reducible apply below_drew | with_reducible apply below_drewN | with_reducible apply below_plus | with_reducible apply below_set | (simp; done)))⟩
    · have HF : Hid (errF zs o n = errS zs o n) := by show errF zs o n = _; rw [errF, errB, hp, ho]; rfl
      have HP := Lib.hid (pairsB_t.1 hp)
      have HO := Lib.hid (inB_t.1 ho)
      have HI := Lib.hid hi
      have HZ := Lib.hid hz
      have hn20 := HP.out.1.2
      go_enter Try.func20, Try.ntmps20
      go_wp2_with (first | (go_at_call 16; refine (hv _ hi).mono ?_; rintro e w1 ⟨rfl, os, d, rfl⟩) | (go_at_call 16; refine (hv _ hi).mono ?_; rintro e w1 ⟨rfl, rfl⟩) | (go_at_call 37; refine (within_any _ _ _ _).mono ?_; rintro e w' ⟨rfl, rfl⟩))
      clear hp ho hi hz hv
      go_loopw [5, 19] (fun s iv wr => ∃ j : Nat, j ≤ n ∧ iv = .int .i64 j ∧ s = .int .i64 (errS zs o j) ∧ ∃ os d, wr = plus w os d) (fun _ iv _ => n - (intOf iv).toNat)
      case atStart => exact ⟨0, Nat.zero_le _, rfl, rfl, by first | exact ⟨_, _, rfl⟩ | exact ⟨#[], _, plus_id.symm⟩⟩
      case round =>
        obtain ⟨j, hj, rfl, rfl, os, d, rfl⟩ := hrel
        by_cases hlt : j < n
        · have hlt' : (j : Int) < (n : Int) := by omega
          obtain ⟨blk, off, rfl, hb, c0, c1⟩ := HI.out.pair HZ.out hlt
          have HS := Lib.hid (errS_succ zs o j)
          have hD := HP.out.2 j hlt
          have hx := (okP_t.1 hD).1
          have hy := (okP_t.1 hD).2
          have hs := errS_bd (zs := zs) (o := o) (n := j) (fun i hi => HP.out.2 i (by omega)) HO.out.1 HO.out.2
          have ho1 := HO.out.1
          have ho2 := HO.out.2
          unfold pD at HS
          generalize pX zs j = x at c0 HS hx
          generalize pY zs j = y at c1 HS hy
          generalize errS zs o j = s at HS hs ⊢
          have hq := sq_bd (x := y - x - o) (A := 4000) (by omega) (by omega)
          have w1 : IntKind.i64.wrap (y - x) = y - x := IntWalk.i64_in _ (by omega)
          have w2 : IntKind.i64.wrap (y - x - o) = y - x - o := IntWalk.i64_in _ (by omega)
          have w3 : IntKind.i64.wrap ((y - x - o) * (y - x - o)) = (y - x - o) * (y - x - o) := IntWalk.i64_in _ (by omega)
          have w4 : IntKind.i64.wrap (s + (y - x - o) * (y - x - o)) = s + (y - x - o) * (y - x - o) := IntWalk.i64_in _ (by omega)
          clear hD hq hs
          go_wp2
          try (go_quiet (fail); go_wp2)
          go_roundw
          case rel => exact ⟨j + 1, by omega, by go_num, by rw [HS.out], up_of_below (by repeat (first | with_reducible exact Below.refl _ _ | with_reducible apply below_alloc | with_reducible apply below_drw | with_reducible apply below_drew | with_reducible apply below_drewN | with_reducible apply below_plus | with_reducible apply below_set | (simp; done)))⟩
          case measure => simp [intOf]; omega
        · have hlt' : ¬ (j : Int) < (n : Int) := by omega
          obtain rfl : j = n := by omega
          go_wp2
          go_ret
          exact ⟨by rw [HF.out]; rfl, up_of_below (by repeat (first | with_reducible exact Below.refl _ _ | with_reducible apply below_alloc | with_reducible apply below_drw | with_reducible apply below_drew | with_reducible apply below_drewN | with_reducible apply below_plus | with_reducible apply below_set | (simp; done)))⟩

set_option maxHeartbeats 2000000 in
theorem sErr_any (a : Option Addr) (n c : Nat) (zs : List Int) (o : Int) (w : World) (hz : zs.length = n * 2) (hi : Ints w a zs) (hn : n ≤ 1000000000) :
    Calls Try.prog 19 #[.slice a n c, .int .i64 o] w fun e w' => e = .returned (.int .i64 (errF zs o n)) ∧ Up w w' := by
  have hv := fun W h => sValid_any a n c zs W hz h hn
  cases hp : pairsB n zs <;> rw [hp] at hv
  · have HF : Hid (errF zs o n = -1) := by show errF zs o n = -1; rw [errF, errB, hp]; rfl
    go_enter Try.func19, Try.ntmps19
    go_wp2_with (first | (go_at_call 14; refine (hv _ hi).mono ?_; rintro e w1 ⟨rfl, os, d, rfl⟩) | (go_at_call 14; refine (hv _ hi).mono ?_; rintro e w1 ⟨rfl, rfl⟩))
    go_ret
    exact ⟨by rw [HF.out]; rfl, up_of_below (by repeat (first | with_reducible exact Below.refl _ _ | with_reducible apply below_alloc | with_reducible apply below_drw | with_reducible apply below_drew | with_reducible apply below_drewN | with_reducible apply below_plus | with_reducible apply below_set | (simp; done)))⟩
  · cases ho : inB o (-2000) 2000
    · have HF : Hid (errF zs o n = -1) := by show errF zs o n = -1; rw [errF, errB, hp, ho]; rfl
      go_enter Try.func19, Try.ntmps19
      go_wp2_with (first | (go_at_call 14; refine (hv _ hi).mono ?_; rintro e w1 ⟨rfl, os, d, rfl⟩) | (go_at_call 14; refine (hv _ hi).mono ?_; rintro e w1 ⟨rfl, rfl⟩) | (go_at_call 35; refine (l1In_any _ _ _ _).mono ?_; rintro e w' ⟨rfl, rfl⟩))
      go_ret
      exact ⟨by rw [HF.out]; rfl, up_of_below (by repeat (first | with_reducible exact Below.refl _ _ | with_reducible apply below_alloc | with_reducible apply below_drw | with_reducible apply below_drew | with_reducible apply below_drewN | with_reducible apply below_plus | with_reducible apply below_set | (simp; done)))⟩
    · have HF : Hid (errF zs o n = errS zs o n) := by show errF zs o n = _; rw [errF, errB, hp, ho]; rfl
      have HP := Lib.hid (pairsB_t.1 hp)
      have HO := Lib.hid (inB_t.1 ho)
      have HI := Lib.hid hi
      have HZ := Lib.hid hz
      have hn20 := HP.out.1.2
      go_enter Try.func19, Try.ntmps19
      go_wp2_with (first | (go_at_call 14; refine (hv _ hi).mono ?_; rintro e w1 ⟨rfl, os, d, rfl⟩) | (go_at_call 14; refine (hv _ hi).mono ?_; rintro e w1 ⟨rfl, rfl⟩) | (go_at_call 35; refine (l1In_any _ _ _ _).mono ?_; rintro e w' ⟨rfl, rfl⟩))
      clear hp ho hi hz hv
      go_loopw [5, 6] (fun s iv wr => ∃ j : Nat, j ≤ n ∧ iv = .int .i64 j ∧ s = .int .i64 (errS zs o j) ∧ ∃ os d, wr = plus w os d) (fun _ iv _ => n - (intOf iv).toNat)
      case atStart => exact ⟨0, Nat.zero_le _, rfl, rfl, by first | exact ⟨_, _, rfl⟩ | exact ⟨#[], _, plus_id.symm⟩⟩
      case round =>
        obtain ⟨j, hj, rfl, rfl, os, d, rfl⟩ := hrel
        by_cases hlt : j < n
        · have hlt' : (j : Int) < (n : Int) := by omega
          obtain ⟨blk, off, rfl, hb, c0, c1⟩ := HI.out.pair HZ.out hlt
          have HS := Lib.hid (errS_succ zs o j)
          have hD := HP.out.2 j hlt
          have hx := (okP_t.1 hD).1
          have hy := (okP_t.1 hD).2
          have hs := errS_bd (zs := zs) (o := o) (n := j) (fun i hi => HP.out.2 i (by omega)) HO.out.1 HO.out.2
          have ho1 := HO.out.1
          have ho2 := HO.out.2
          unfold pD at HS
          generalize pX zs j = x at c0 HS hx
          generalize pY zs j = y at c1 HS hy
          generalize errS zs o j = s at HS hs ⊢
          have hq := sq_bd (x := y - x - o) (A := 4000) (by omega) (by omega)
          have w1 : IntKind.i64.wrap (y - x) = y - x := IntWalk.i64_in _ (by omega)
          have w2 : IntKind.i64.wrap (y - x - o) = y - x - o := IntWalk.i64_in _ (by omega)
          have w3 : IntKind.i64.wrap ((y - x - o) * (y - x - o)) = (y - x - o) * (y - x - o) := IntWalk.i64_in _ (by omega)
          have w4 : IntKind.i64.wrap (s + (y - x - o) * (y - x - o)) = s + (y - x - o) * (y - x - o) := IntWalk.i64_in _ (by omega)
          clear hD hq hs
          go_wp2
          try (go_quiet (fail); go_wp2)
          go_roundw
          case rel => exact ⟨j + 1, by omega, by go_num, by rw [HS.out], up_of_below (by repeat (first | with_reducible exact Below.refl _ _ | with_reducible apply below_alloc | with_reducible apply below_drw | with_reducible apply below_drew | with_reducible apply below_drewN | with_reducible apply below_plus | with_reducible apply below_set | (simp; done)))⟩
          case measure => simp [intOf]; omega
        · have hlt' : ¬ (j : Int) < (n : Int) := by omega
          obtain rfl : j = n := by omega
          go_wp2
          go_ret
          exact ⟨by rw [HF.out]; rfl, up_of_below (by repeat (first | with_reducible exact Below.refl _ _ | with_reducible apply below_alloc | with_reducible apply below_drw | with_reducible apply below_drew | with_reducible apply below_drewN | with_reducible apply below_plus | with_reducible apply below_set | (simp; done)))⟩

set_option maxHeartbeats 400000 in
theorem nearest_any (a b : Int) (w : World) (h1 : 1 ≤ b) (h2 : b ≤ 1000) (h3 : -1000000 ≤ a) (h4 : a ≤ 1000000) :
    Calls Try.prog 44 #[.int .i64 a, .int .i64 b] w fun e w' => e = .returned (.int .i64 ((2 * a + b) / (2 * b))) ∧ w = w' := by
  have e1 : IntKind.i64.wrap (2 * a) = 2 * a := IntWalk.i64_in _ (by omega)
  have e2 : IntKind.i64.wrap (2 * a + b) = 2 * a + b := IntWalk.i64_in _ (by omega)
  have e3 : IntKind.i64.wrap (2 * b) = 2 * b := IntWalk.i64_in _ (by omega)
  have H := Lib.hid (fun W => floor_any (2 * a + b) (2 * b) W (by omega) (by omega) (by omega) (by omega))
  go_enter Try.func44, Try.ntmps44
  go_wp2_with (first | (go_at_call 51; refine (H.out _).mono ?_; rintro e w' ⟨rfl, rfl⟩))
  go_ret
  exact ⟨rfl, rfl⟩

set_option maxHeartbeats 2000000 in
theorem fit_any (a : Option Addr) (n c : Nat) (zs : List Int) (w : World) (hz : zs.length = n * 2) (hi : Ints w a zs) (hn : n ≤ 1000000000) :
    Calls Try.prog 22 #[.slice a n c] w fun e w' => e = .returned (.int .i64 (fitF zs n)) ∧ Up w w' := by
  have hv := fun W h => valid_any a n c zs W hz h hn
  cases hp : pairsB n zs <;> rw [hp] at hv
  · have HF : Hid (fitF zs n = 0) := by show fitF zs n = 0; rw [fitF, hp]; rfl
    go_enter Try.func22, Try.ntmps22
    go_wp2_with (first | (go_at_call 16; refine (hv _ hi).mono ?_; rintro e w1 ⟨rfl, os, d, rfl⟩) | (go_at_call 16; refine (hv _ hi).mono ?_; rintro e w1 ⟨rfl, rfl⟩))
    go_ret
    exact ⟨by rw [HF.out]; rfl, up_of_below (by repeat (first | with_reducible exact Below.refl _ _ | with_reducible apply below_alloc | with_reducible apply below_drw | with_reducible apply below_drew | with_reducible apply below_drewN | with_reducible apply below_plus | with_reducible apply below_set | (simp; done)))⟩
  · have HF : Hid (fitF zs n = (2 * sumD zs n + n) / (2 * n)) := by show fitF zs n = _; rw [fitF, hp]; rfl
    have HP := Lib.hid (pairsB_t.1 hp)
    have HI := Lib.hid hi
    have HZ := Lib.hid hz
    have hn20 := HP.out.1.2
    have hn1 := HP.out.1.1
    go_enter Try.func22, Try.ntmps22
    go_wp2_with (first | (go_at_call 16; refine (hv _ hi).mono ?_; rintro e w1 ⟨rfl, os, d, rfl⟩) | (go_at_call 16; refine (hv _ hi).mono ?_; rintro e w1 ⟨rfl, rfl⟩))
    clear hp hi hz hv
    go_loopw [3, 11] (fun s iv wr => ∃ j : Nat, j ≤ n ∧ iv = .int .i64 j ∧ s = .int .i64 (sumD zs j) ∧ ∃ os d, wr = plus w os d) (fun _ iv _ => n - (intOf iv).toNat)
    case atStart => exact ⟨0, Nat.zero_le _, rfl, rfl, by first | exact ⟨_, _, rfl⟩ | exact ⟨#[], _, plus_id.symm⟩⟩
    case round =>
      obtain ⟨j, hj, rfl, rfl, os, d, rfl⟩ := hrel
      by_cases hlt : j < n
      · have hlt' : (j : Int) < (n : Int) := by omega
        obtain ⟨blk, off, rfl, hb, c0, c1⟩ := HI.out.pair HZ.out hlt
        have HS := Lib.hid (sumD_succ zs j)
        have hD := HP.out.2 j hlt
        have hx := (okP_t.1 hD).1
        have hy := (okP_t.1 hD).2
        have hs := sumD_bd (zs := zs) (n := j) (fun i hi => HP.out.2 i (by omega))
        unfold pD at HS
        generalize pX zs j = x at c0 HS hx
        generalize pY zs j = y at c1 HS hy
        generalize sumD zs j = s at HS hs ⊢
        have w1 : IntKind.i64.wrap (y - x) = y - x := IntWalk.i64_in _ (by omega)
        have w2 : IntKind.i64.wrap (s + y) = s + y := IntWalk.i64_in _ (by omega)
        have w3 : IntKind.i64.wrap (s + (y - x)) = s + (y - x) := IntWalk.i64_in _ (by omega)
        have w4 : IntKind.i64.wrap (s + y - x) = s + (y - x) := by rw [show s + y - x = s + (y - x) by omega]; exact w3
        clear hD hs
        go_wp2
        try (go_quiet (fail); go_wp2)
        go_roundw
        case rel => exact ⟨j + 1, by omega, by go_num, by rw [HS.out], up_of_below (by repeat (first | with_reducible exact Below.refl _ _ | with_reducible apply below_alloc | with_reducible apply below_drw | with_reducible apply below_drew | with_reducible apply below_drewN | with_reducible apply below_plus | with_reducible apply below_set | (simp; done)))⟩
        case measure => simp [intOf]; omega
      · have hlt' : ¬ (j : Int) < (n : Int) := by omega
        obtain rfl : j = n := by omega
        have hs := sumD_bd (zs := zs) (n := j) (fun i hi => HP.out.2 i (by omega))
        generalize sumD zs j = s at HF hs ⊢
        have e1 : IntKind.i64.wrap (2 * s) = 2 * s := IntWalk.i64_in _ (by omega)
        have e2 : IntKind.i64.wrap (2 * s + j) = 2 * s + j := IntWalk.i64_in _ (by omega)
        have e3 : IntKind.i64.wrap (2 * (j : Int)) = 2 * j := IntWalk.i64_in _ (by omega)
        have H1 := Lib.hid hs
        clear hs
        go_wp2_with (first | (go_at_call 44; refine (nearest_any _ _ _ (by omega) (by omega) (by have := H1.out; omega) (by have := H1.out; omega)).mono ?_; rintro e w' ⟨rfl, rfl⟩))
        go_ret
        exact ⟨by rw [HF.out]; rfl, up_of_below (by repeat (first | with_reducible exact Below.refl _ _ | with_reducible apply below_alloc | with_reducible apply below_drw | with_reducible apply below_drew | with_reducible apply below_drewN | with_reducible apply below_plus | with_reducible apply below_set | (simp; done)))⟩

set_option maxHeartbeats 2000000 in
theorem sFit_any (a : Option Addr) (n c : Nat) (zs : List Int) (w : World) (hz : zs.length = n * 2) (hi : Ints w a zs) (hn : n ≤ 1000000000) :
    Calls Try.prog 21 #[.slice a n c] w fun e w' => e = .returned (.int .i64 (fitF zs n)) ∧ Up w w' := by
  have hv := fun W h => sValid_any a n c zs W hz h hn
  cases hp : pairsB n zs <;> rw [hp] at hv
  · have HF : Hid (fitF zs n = 0) := by show fitF zs n = 0; rw [fitF, hp]; rfl
    go_enter Try.func21, Try.ntmps21
    go_wp2_with (first | (go_at_call 14; refine (hv _ hi).mono ?_; rintro e w1 ⟨rfl, os, d, rfl⟩) | (go_at_call 14; refine (hv _ hi).mono ?_; rintro e w1 ⟨rfl, rfl⟩))
    go_ret
    exact ⟨by rw [HF.out]; rfl, up_of_below (by repeat (first | with_reducible exact Below.refl _ _ | with_reducible apply below_alloc | with_reducible apply below_drw | with_reducible apply below_drew | with_reducible apply below_drewN | with_reducible apply below_plus | with_reducible apply below_set | (simp; done)))⟩
  · have HF : Hid (fitF zs n = (2 * sumD zs n + n) / (2 * n)) := by show fitF zs n = _; rw [fitF, hp]; rfl
    have HP := Lib.hid (pairsB_t.1 hp)
    have HI := Lib.hid hi
    have HZ := Lib.hid hz
    have hn20 := HP.out.1.2
    have hn1 := HP.out.1.1
    go_enter Try.func21, Try.ntmps21
    go_wp2_with (first | (go_at_call 14; refine (hv _ hi).mono ?_; rintro e w1 ⟨rfl, os, d, rfl⟩) | (go_at_call 14; refine (hv _ hi).mono ?_; rintro e w1 ⟨rfl, rfl⟩))
    clear hp hi hz hv
    go_loopw [3, 4] (fun s iv wr => ∃ j : Nat, j ≤ n ∧ iv = .int .i64 j ∧ s = .int .i64 (sumD zs j) ∧ ∃ os d, wr = plus w os d) (fun _ iv _ => n - (intOf iv).toNat)
    case atStart => exact ⟨0, Nat.zero_le _, rfl, rfl, by first | exact ⟨_, _, rfl⟩ | exact ⟨#[], _, plus_id.symm⟩⟩
    case round =>
      obtain ⟨j, hj, rfl, rfl, os, d, rfl⟩ := hrel
      by_cases hlt : j < n
      · have hlt' : (j : Int) < (n : Int) := by omega
        obtain ⟨blk, off, rfl, hb, c0, c1⟩ := HI.out.pair HZ.out hlt
        have HS := Lib.hid (sumD_succ zs j)
        have hD := HP.out.2 j hlt
        have hx := (okP_t.1 hD).1
        have hy := (okP_t.1 hD).2
        have hs := sumD_bd (zs := zs) (n := j) (fun i hi => HP.out.2 i (by omega))
        unfold pD at HS
        generalize pX zs j = x at c0 HS hx
        generalize pY zs j = y at c1 HS hy
        generalize sumD zs j = s at HS hs ⊢
        have w1 : IntKind.i64.wrap (y - x) = y - x := IntWalk.i64_in _ (by omega)
        have w2 : IntKind.i64.wrap (s + y) = s + y := IntWalk.i64_in _ (by omega)
        have w3 : IntKind.i64.wrap (s + (y - x)) = s + (y - x) := IntWalk.i64_in _ (by omega)
        have w4 : IntKind.i64.wrap (s + y - x) = s + (y - x) := by rw [show s + y - x = s + (y - x) by omega]; exact w3
        clear hD hs
        go_wp2
        try (go_quiet (fail); go_wp2)
        go_roundw
        case rel => exact ⟨j + 1, by omega, by go_num, by rw [HS.out], up_of_below (by repeat (first | with_reducible exact Below.refl _ _ | with_reducible apply below_alloc | with_reducible apply below_drw | with_reducible apply below_drew | with_reducible apply below_drewN | with_reducible apply below_plus | with_reducible apply below_set | (simp; done)))⟩
        case measure => simp [intOf]; omega
      · have hlt' : ¬ (j : Int) < (n : Int) := by omega
        obtain rfl : j = n := by omega
        have hs := sumD_bd (zs := zs) (n := j) (fun i hi => HP.out.2 i (by omega))
        generalize sumD zs j = s at HF hs ⊢
        have e1 : IntKind.i64.wrap (2 * s) = 2 * s := IntWalk.i64_in _ (by omega)
        have e2 : IntKind.i64.wrap (2 * s + j) = 2 * s + j := IntWalk.i64_in _ (by omega)
        have e3 : IntKind.i64.wrap (2 * (j : Int)) = 2 * j := IntWalk.i64_in _ (by omega)
        have H1 := Lib.hid hs
        clear hs
        go_wp2_with (first | (go_at_call 43; refine (l1Floor_any _ _ _ (by omega) (by omega) (by have := H1.out; omega) (by have := H1.out; omega)).mono ?_; rintro e w' ⟨rfl, rfl⟩))
        go_ret
        exact ⟨by rw [HF.out]; rfl, up_of_below (by repeat (first | with_reducible exact Below.refl _ _ | with_reducible apply below_alloc | with_reducible apply below_drw | with_reducible apply below_drew | with_reducible apply below_drewN | with_reducible apply below_plus | with_reducible apply below_set | (simp; done)))⟩

end Go.Proofs.Ytfonccnpgedgfaa
