/-
  Contracts of the laws' helpers on lists of structs of two numbers. Conditions: those that each theorem states.
-/
import Derived.Test.YtfdpdhinigfpfaaZl
import Derived.Deep.RegionHeld3
namespace Go.Proofs.Ytfdpdhinigfpfaa
open Go.RowKit

theorem infoE : (Try.prog.info? 36).map (fun i => (i.zero, i.size, i.bytes)) = some (some (.agg #[.int .i64 0, .int .i64 0]), 2, 16) := by kernel_rfl
theorem intCells_impl : IntCells 36 2 := intCells_struct2 Try.underlying36 rfl rfl (by kernel_rfl) (by kernel_rfl) (by kernel_rfl) (intCells_int Try.underlying3) (intCells_int Try.underlying3)
theorem intCells_laws : IntCells 44 2 := intCells_struct2 Try.underlying44 rfl rfl (by kernel_rfl) (by kernel_rfl) (by kernel_rfl) (intCells_int Try.underlying3) (intCells_int Try.underlying3)
/-- A list that the law was handed. -/
def Given2 (W : World) (a : Option Addr) (n c : Nat) : Prop := n ≤ c ∧ c ≤ maxLen ∧ ∃ zs : List Int, zs.length = n * 2 ∧ Ints W a zs
theorem open_two {H : Type} {enc : TypeId × Value → H} {W : World} {a : Option Addr} {n c : Nat} {d : DataW H} {p : List MemPlace}
    (h : DataW.Trod enc Try.prog W 0 (fun _ => true) true 55 (.slice a n c) d p) : Given2 W a n c := by
  obtain ⟨h1, h2, zs, h3, h4, _⟩ := open_flat Try.underlying55 intCells_laws (by kernel_rfl) h
  exact ⟨h1, h2, zs, h3, h4⟩

/-- A call makes a list of structs. -/
def Made2 (w : World) (n : Nat) (zs : List Int) (e : Ending) (w' : World) : Prop := ∃ a c, e = .returned (.slice a n c) ∧ OwnG 36 2 w' w.heap.size (.slice a n c) n zs ∧ Below w.heap.size w w'
theorem made2 {w w' : World} {v : Value} {n : Nat} {zs : List Int} (h : OwnG 36 2 w' w.heap.size v n zs) (hb : Below w.heap.size w w') : Made2 w n zs (.returned v) w' := by
  obtain ⟨a, c, rfl, _⟩ := h.form
  exact ⟨a, c, rfl, h, hb⟩

set_option maxHeartbeats 400000 in
theorem szS_any (a : Option Addr) (n c : Nat) (w : World) (hn : n ≤ 9223372036854775807) :
    Calls Try.prog 34 #[.slice a n c, .int .i64 1048576] w fun e w' => e = .returned (.int .i64 (if n ≤ 1048576 then 1048576 - (n : Int) else -1)) ∧ w = w' := by
  by_cases h : n ≤ 1048576
  · rw [if_pos h]
    have h' : ¬ ((1048576 : Int) - n < 0) := by omega
    go_enter Try.func34, Try.ntmps34
    go_wp2
    go_ret
    exact ⟨rfl, rfl⟩
  · rw [if_neg h]
    have h' : (1048576 : Int) - n < 0 := by omega
    go_enter Try.func34, Try.ntmps34
    go_wp2
    go_ret
    exact ⟨rfl, rfl⟩

set_option maxHeartbeats 400000 in
theorem toE_any (x y : Int) (w : World) :
    Calls Try.prog 27 #[.agg #[.int .i64 x, .int .i64 y]] w fun e w' => e = .returned (.agg #[.int .i64 x, .int .i64 y]) ∧ Up w w' := by
  go_enter Try.func27, Try.ntmps27
  go_wp2
  refine bodyPost_ret (v := .agg #[.int .i64 x, .int .i64 y]) (by simp [results, Try.results27, go_sem]) rfl ⟨rfl, up_of_below ?_⟩
  repeat (first | with_reducible exact Below.refl _ _ | with_reducible apply below_alloc | with_reducible apply below_drw | with_reducible apply below_drew | with_reducible apply below_drewN | with_reducible apply below_plus | with_reducible apply below_set | (simp; done))

set_option maxHeartbeats 400000 in
theorem eqE_any (x y : Int) (w : World) :
    Calls Try.prog 57 #[.agg #[.int .i64 x, .int .i64 y], .agg #[.int .i64 x, .int .i64 y]] w fun e w' => e = .returned (.bool true) ∧ Up w w' := by
  go_enter Try.func57, Try.ntmps57
  go_wp2
  go_ret
  refine ⟨rfl, up_of_below ?_⟩
  repeat (first | with_reducible exact Below.refl _ _ | with_reducible apply below_alloc | with_reducible apply below_drw | with_reducible apply below_drew | with_reducible apply below_drewN | with_reducible apply below_plus | with_reducible apply below_set | (simp; done))

theorem made_zero (n : Nat) : (madeCells (Value.agg #[.int .i64 0, .int .i64 0]).cells (n * 2)).toList = (List.replicate (n * 2) (0 : Int)).map (Value.int .i64) := by
  apply List.ext_getElem
  · simp [madeCells, Value.cells]
  · intro i h1 h2
    simp [madeCells, Value.cells]
    rcases Nat.mod_two_eq_zero_or_one i with h | h <;> simp [h]

set_option maxHeartbeats 1000000 in
theorem toS_any (a : Option Addr) (n c : Nat) (zs : List Int) (w : World) (hz : zs.length = n * 2) (hi : Ints w a zs) (hn : n ≤ 1048576) :
    Calls Try.prog 35 #[.slice a n c] w (Made2 w n zs) := by
  obtain ⟨i0, hi0, hz0, hz1, hz2⟩ := info_parts infoE
  have HI := Lib.hid hi
  clear hi
  have HZ := Lib.hid hz
  clear hz
  obtain ⟨us, hus⟩ : ∃ us : List Int, us = List.replicate (n * 2) 0 := ⟨_, rfl⟩
  have hul : us.length = n * 2 := by rw [hus]; simp
  have hm := made_zero n
  rw [← hus] at hm
  go_enter Try.func35, Try.ntmps35
  go_wp2_with (first | (at_make; go_loud (refine wpList_make_full _ rfl _ _ 50 rfl w.heap.size 36 i0 _ 2 Try.underlying50 hi0 hz0 hz1 .i64 .i64 n n n rfl rfl rfl rfl (by rw [hz2]; omega) (by unfold maxLen; omega) (Nat.le_refl _) ?_); intro w1 hown hgrow))
  rw [hm] at hown
  have hB1 : Below w.heap.size w w1 := (Below.refl _ w).grown hgrow (Nat.le_refl _) (by simp)
  have HO1 := Lib.hid (show OwnG 36 2 w1 w.heap.size (.slice (some ⟨w.heap.size, 0, none⟩) n n) n us from hown)
  have HB1 := Lib.hid hB1
  clear hown hgrow hm hus hB1
  have HU := Lib.hid hul
  clear hul
  go_wp2
  go_loopw [4] (fun iv wr => ∃ j : Nat, j ≤ n ∧ iv = .int .i64 j ∧ Hid (OwnG 36 2 wr w.heap.size (.slice (some ⟨w.heap.size, 0, none⟩) n n) n (upd (fun i => zs.getD i 0) us (j * 2))) ∧ Hid (Below w.heap.size w wr)) (fun iv _ => n - (intOf iv).toNat)
  case atStart => exact ⟨0, Nat.zero_le _, rfl, by show OwnG _ _ _ _ _ _ _; rw [Nat.zero_mul, upd_zero]; exact HO1.out, HB1⟩
  case round =>
    obtain ⟨j, hj, rfl, HO, HB⟩ := hrel
    by_cases hlt : j < n
    · have hlt' : (j : Int) < (n : Int) := by omega
      rcases (HI.out.below HB.out) with h0 | ⟨blk, off, rfl, hc⟩
      · exfalso
        have := HZ.out
        rw [h0] at this
        simp at this
        omega
      · have c0 := hc (j * 2) (by rw [HZ.out]; omega)
        have c1 := hc (j * 2 + 1) (by rw [HZ.out]; omega)
        rw [← Nat.add_assoc] at c1
        clear hc
        have b0 := World.block_lt_of_cell? _ _ c0
        simp only at b0
        have bg := (HO.out.lt w.heap.size rfl).2
        have M1 := HO.out.upd (show j * 2 < us.length by rw [HU.out]; omega)
        have M2 := M1.1.upd (show j * 2 + 1 < us.length by rw [HU.out]; omega)
        have d0 := HO.out.cell (j := j * 2) (by rw [upd_length, HU.out]; omega)
        have d1 := HO.out.cell (j := j * 2 + 1) (by rw [upd_length, HU.out]; omega)
        have f0 := HO.out.free (j * 2)
        have f1 := HO.out.free (j * 2 + 1)
        have HM := Lib.hid M2.1
        have HG := Lib.hid (grown_trans M1.2 M2.2)
        clear M1 M2
        generalize zs.getD (j * 2) 0 = x at c0 HM HG
        generalize zs.getD (j * 2 + 1) 0 = y at c1 HM HG
        go_wp2_with (first | (go_at_call 27; refine (toE_any _ _ _).mono ?_; rintro e w1 ⟨rfl, os, d, rfl⟩))
        go_roundw
        case rel =>
          refine ⟨j + 1, by omega, by go_num, ?_, ?_⟩
          · show OwnG _ _ _ _ _ _ _
            rw [show (j + 1) * 2 = j * 2 + 1 + 1 by omega]
            exact HM.out.plus _ _
          · exact below_plus (HB.out.grown HG.out HB.out.size (by intro k hk; simp at hk; omega)) _ _
        case measure => simp [intOf]; omega
    · have hlt' : ¬ (j : Int) < (n : Int) := by omega
      obtain rfl : j = n := by omega
      go_wp2
      go_ret
      refine made2 ?_ HB.out
      have := HO.out
      rw [← HZ.out, upd_copy zs us (by rw [HU.out, HZ.out])] at this
      exact this

set_option maxHeartbeats 1000000 in
theorem eqS_any (a1 a2 : Option Addr) (c1 c2 n : Nat) (zs : List Int) (w : World) (h1 : Ints w a1 zs) (h2 : Ints w a2 zs) (hz : zs.length = n * 2) (hl : n ≤ 1000000000) :
    Calls Try.prog 36 #[.slice a1 n c1, .slice a2 n c2] w fun e w' => e = .returned (.bool true) ∧ Up w w' := by
  by_cases hn : n = 0
  · subst hn
    go_enter Try.func36, Try.ntmps36
    go_wp2
    go_loop [5] (fun i => i = .int .i64 0) (fun _ => 0)
    case atStart => rfl
    case round =>
      obtain rfl := hrel
      go_wp2
      go_ret
      exact ⟨rfl, up_of_below (Below.refl _ _)⟩
  rcases h1 with h0 | ⟨b1, o1, rfl, g1⟩
  · rw [h0] at hz; simp at hz; omega
  rcases h2 with h0 | ⟨b2, o2, rfl, g2⟩
  · rw [h0] at hz; simp at hz; omega
  have HZ := Lib.hid hz
  have G1 := Lib.hid g1
  have G2 := Lib.hid g2
  clear g1 g2 hz
  go_enter Try.func36, Try.ntmps36
  go_wp2
  go_loopw [5] (fun i wr => ∃ k : Nat, k ≤ n ∧ i = .int .i64 k ∧ ∃ os d, wr = plus w os d) (fun i _ => n - (intOf i).toNat)
  case atStart => exact ⟨0, Nat.zero_le _, rfl, #[], _, plus_id.symm⟩
  case round =>
    obtain ⟨k, hk, rfl, os, d, rfl⟩ := hrel
    by_cases hlt : k < n
    · have e1 := G1.out (k * 2) (by rw [HZ.out]; omega)
      have e2 := G2.out (k * 2) (by rw [HZ.out]; omega)
      have e3 := G1.out (k * 2 + 1) (by rw [HZ.out]; omega)
      have e4 := G2.out (k * 2 + 1) (by rw [HZ.out]; omega)
      rw [← Nat.add_assoc] at e3 e4
      have l1 := World.block_lt_of_cell? _ _ e1
      have l2 := World.block_lt_of_cell? _ _ e2
      simp only at l1 l2
      generalize zs.getD (k * 2) 0 = x at e1 e2
      generalize zs.getD (k * 2 + 1) 0 = y at e3 e4
      have hlt' : (k : Int) < (n : Int) := by omega
      go_wp2
      go_region_held3 (fun W => W.cell? ⟨b1, o1 + k * 2, none⟩ = some (.int .i64 x) ∧ W.cell? ⟨b1, o1 + k * 2 + 1, none⟩ = some (.int .i64 y) ∧ W.cell? ⟨b2, o2 + k * 2, none⟩ = some (.int .i64 x) ∧ W.cell? ⟨b2, o2 + k * 2 + 1, none⟩ = some (.int .i64 y)) (simp [go_sem, e1, e2, e3, e4, l1, l2]) (first | (go_at_call 57; refine (eqE_any _ _ _).mono ?_; rintro e w1 ⟨rfl, os, d, rfl⟩))
      go_wp2
      go_roundw
      case rel => exact ⟨k + 1, by omega, by go_num, _, _, rfl⟩
      case measure => simp [intOf]; omega
    · have hlt' : ¬ (k : Int) < (n : Int) := by omega
      go_wp2
      go_ret
      exact ⟨rfl, _, _, rfl⟩



end Go.Proofs.Ytfdpdhinigfpfaa
