/-
  Contracts of the laws' helpers on lists of zones. Conditions: those that each theorem states.
-/
import Derived.Test.YtfdpdhinigfpfaaLs
namespace Go.Proofs.Ytfdpdhinigfpfaa
open Go.RowKit

theorem infoZ : (Try.prog.info? 38).map (fun i => (i.zero, i.size, i.bytes)) = some (some (.agg #[.int .i64 0, .int .i64 0, .int .i64 0, .int .i64 0]), 4, 32) := by kernel_rfl
theorem intCells_lawsZ : IntCells 71 4 :=
  intCells_struct3 (k0 := 2) (k1 := 1) (k2 := 1) Try.underlying71 rfl rfl rfl (by kernel_rfl) (by kernel_rfl) (by kernel_rfl) (by kernel_rfl) intCells_laws (intCells_int Try.underlying3) (intCells_int Try.underlying3)
def Given4 (W : World) (a : Option Addr) (n c : Nat) : Prop := n ≤ c ∧ c ≤ maxLen ∧ ∃ zs : List Int, zs.length = n * 4 ∧ Ints W a zs
theorem open_zones {H : Type} {enc : TypeId × Value → H} {W : World} {a : Option Addr} {n c : Nat} {d : DataW H} {p : List MemPlace}
    (h : DataW.Trod enc Try.prog W 0 (fun _ => true) true 39 (.slice a n c) d p) : Given4 W a n c := by
  obtain ⟨h1, h2, zs, h3, h4, _⟩ := open_flat Try.underlying39 intCells_lawsZ (by kernel_rfl) h
  exact ⟨h1, h2, zs, h3, h4⟩
def zX (zs : List Int) (j : Nat) : Int := zs.getD (j * 4) 0
def zY (zs : List Int) (j : Nat) : Int := zs.getD (j * 4 + 1) 0
def zR (zs : List Int) (j : Nat) : Int := zs.getD (j * 4 + 2) 0
def zS (zs : List Int) (j : Nat) : Int := zs.getD (j * 4 + 3) 0
/-- Zone j of a list that reads. -/
theorem Ints.zone {w : World} {a : Option Addr} {n : Nat} {zs : List Int} (h : Ints w a zs) (hz : zs.length = n * 4) {j : Nat} (hj : j < n) :
    ∃ blk off, a = some ⟨blk, off, none⟩ ∧ blk < w.heap.size ∧ w.cell? ⟨blk, off + j * 4, none⟩ = some (.int .i64 (zX zs j)) ∧ w.cell? ⟨blk, off + j * 4 + 1, none⟩ = some (.int .i64 (zY zs j)) ∧ w.cell? ⟨blk, off + j * 4 + 2, none⟩ = some (.int .i64 (zR zs j)) ∧ w.cell? ⟨blk, off + j * 4 + 3, none⟩ = some (.int .i64 (zS zs j)) := by
  rcases h with h0 | ⟨blk, off, rfl, hc⟩
  · rw [h0] at hz; simp at hz; omega
  have c0 := hc (j * 4) (by omega)
  have c1 := hc (j * 4 + 1) (by omega)
  have c2 := hc (j * 4 + 2) (by omega)
  have c3 := hc (j * 4 + 3) (by omega)
  rw [← Nat.add_assoc] at c1 c2 c3
  exact ⟨blk, off, rfl, World.block_lt_of_cell? _ _ c0, c0, c1, c2, c3⟩
def Made4 (w : World) (n : Nat) (zs : List Int) (e : Ending) (w' : World) : Prop := ∃ a c, e = .returned (.slice a n c) ∧ OwnG 38 4 w' w.heap.size (.slice a n c) n zs ∧ Below w.heap.size w w'
theorem made4 {w w' : World} {v : Value} {n : Nat} {zs : List Int} (h : OwnG 38 4 w' w.heap.size v n zs) (hb : Below w.heap.size w w') : Made4 w n zs (.returned v) w' := by
  obtain ⟨a, c, rfl, _⟩ := h.form
  exact ⟨a, c, rfl, h, hb⟩

set_option maxHeartbeats 400000 in
theorem szZ_any (a : Option Addr) (n c : Nat) (l : Int) (w : World) (hn : n ≤ 9223372036854775807) (hl0 : 0 ≤ l) (hl : l ≤ 1048576) :
    Calls Try.prog 23 #[.slice a n c, .int .i64 l] w fun e w' => e = .returned (.int .i64 (if n ≤ l then l - (n : Int) else -1)) ∧ w = w' := by
  by_cases h : (n : Int) ≤ l
  · rw [if_pos h]
    have h' : ¬ (l - (n : Int) < 0) := by omega
    go_enter Try.func23, Try.ntmps23
    go_wp2
    go_ret
    exact ⟨rfl, rfl⟩
  · rw [if_neg h]
    have h' : l - (n : Int) < 0 := by omega
    go_enter Try.func23, Try.ntmps23
    go_wp2
    go_ret
    exact ⟨rfl, rfl⟩

set_option maxHeartbeats 400000 in
theorem toZ_any (x y r s : Int) (w : World) :
    Calls Try.prog 49 #[.agg #[.int .i64 x, .int .i64 y, .int .i64 r, .int .i64 s]] w fun e w' => e = .returned (.agg #[.int .i64 x, .int .i64 y, .int .i64 r, .int .i64 s]) ∧ Up w w' := by
  go_enter Try.func49, Try.ntmps49
  go_wp2_with (first | (go_at_call 27; refine (toE_any _ _ _).mono ?_; rintro e w1 ⟨rfl, os, d, rfl⟩))
  refine bodyPost_ret (v := .agg #[.int .i64 x, .int .i64 y, .int .i64 r, .int .i64 s]) (by simp [results, Try.results49, go_sem]) rfl ⟨rfl, up_of_below ?_⟩
  repeat (first | with_reducible exact Below.refl _ _ | with_reducible apply below_alloc | with_reducible apply below_drw | with_reducible apply below_drew | with_reducible apply below_drewN | with_reducible apply below_plus | with_reducible apply below_set | (simp; done))

set_option maxHeartbeats 400000 in
theorem eqZ_any (x y r s : Int) (w : World) :
    Calls Try.prog 50 #[.agg #[.int .i64 x, .int .i64 y, .int .i64 r, .int .i64 s], .agg #[.int .i64 x, .int .i64 y, .int .i64 r, .int .i64 s]] w fun e w' => e = .returned (.bool true) ∧ Up w w' := by
  go_enter Try.func50, Try.ntmps50
  go_wp2_with (first | (go_at_call 57; refine (eqE_any _ _ _).mono ?_; rintro e w1 ⟨rfl, os, d, rfl⟩))
  go_ret
  refine ⟨rfl, up_of_below ?_⟩
  repeat (first | with_reducible exact Below.refl _ _ | with_reducible apply below_alloc | with_reducible apply below_drw | with_reducible apply below_drew | with_reducible apply below_drewN | with_reducible apply below_plus | with_reducible apply below_set | (simp; done))

theorem made_zeroZ (n : Nat) : (madeCells (Value.agg #[.int .i64 0, .int .i64 0, .int .i64 0, .int .i64 0]).cells (n * 4)).toList = (List.replicate (n * 4) (0 : Int)).map (Value.int .i64) := by
  apply List.ext_getElem
  · simp [madeCells, Value.cells]
  · intro i h1 h2
    simp [madeCells, Value.cells]
    have : i % 4 = 0 ∨ i % 4 = 1 ∨ i % 4 = 2 ∨ i % 4 = 3 := by omega
    rcases this with h | h | h | h <;> simp [h]

set_option maxHeartbeats 2000000 in
theorem toZS_any (a : Option Addr) (n c : Nat) (zs : List Int) (w : World) (hz : zs.length = n * 4) (hi : Ints w a zs) (hn : n ≤ 1048576) :
    Calls Try.prog 24 #[.slice a n c] w (Made4 w n zs) := by
  obtain ⟨i0, hi0, hz0, hz1, hz2⟩ := info_parts infoZ
  have HI := Lib.hid hi
  clear hi
  have HZ := Lib.hid hz
  clear hz
  obtain ⟨us, hus⟩ : ∃ us : List Int, us = List.replicate (n * 4) 0 := ⟨_, rfl⟩
  have hul : us.length = n * 4 := by rw [hus]; simp
  have hm := made_zeroZ n
  rw [← hus] at hm
  go_enter Try.func24, Try.ntmps24
  go_wp2_with (first | (at_make; go_loud (refine wpList_make_full _ rfl _ _ 32 rfl w.heap.size 38 i0 _ 4 Try.underlying32 hi0 hz0 hz1 .i64 .i64 n n n rfl rfl rfl rfl (by rw [hz2]; omega) (by unfold maxLen; omega) (Nat.le_refl _) ?_); intro w1 hown hgrow))
  rw [hm] at hown
  have hB1 : Below w.heap.size w w1 := (Below.refl _ w).grown hgrow (Nat.le_refl _) (by simp)
  have HO1 := Lib.hid (show OwnG 38 4 w1 w.heap.size (.slice (some ⟨w.heap.size, 0, none⟩) n n) n us from hown)
  have HB1 := Lib.hid hB1
  clear hown hgrow hm hus hB1
  have HU := Lib.hid hul
  clear hul
  go_wp2
  go_loopw [4] (fun iv wr => ∃ j : Nat, j ≤ n ∧ iv = .int .i64 j ∧ Hid (OwnG 38 4 wr w.heap.size (.slice (some ⟨w.heap.size, 0, none⟩) n n) n (upd (fun i => zs.getD i 0) us (j * 4))) ∧ Hid (Below w.heap.size w wr)) (fun iv _ => n - (intOf iv).toNat)
  case atStart => exact ⟨0, Nat.zero_le _, rfl, by show OwnG _ _ _ _ _ _ _; rw [Nat.zero_mul, upd_zero]; exact HO1.out, HB1⟩
  case round =>
    obtain ⟨j, hj, rfl, HO, HB⟩ := hrel
    by_cases hlt : j < n
    · have hlt' : (j : Int) < (n : Int) := by omega
      obtain ⟨blk, off, rfl, b0, c0, c1, c2, c3⟩ := (HI.out.below HB.out).zone HZ.out hlt
      have bg := (HO.out.lt w.heap.size rfl).2
      have M1 := HO.out.upd (show j * 4 < us.length by rw [HU.out]; omega)
      have M2 := M1.1.upd (show j * 4 + 1 < us.length by rw [HU.out]; omega)
      have M3 := M2.1.upd (show j * 4 + 1 + 1 < us.length by rw [HU.out]; omega)
      have M4 := M3.1.upd (show j * 4 + 1 + 1 + 1 < us.length by rw [HU.out]; omega)
      have d0 := HO.out.cell (j := j * 4) (by rw [upd_length, HU.out]; omega)
      have d1 := HO.out.cell (j := j * 4 + 1) (by rw [upd_length, HU.out]; omega)
      have d2 := HO.out.cell (j := j * 4 + 2) (by rw [upd_length, HU.out]; omega)
      have d3 := HO.out.cell (j := j * 4 + 3) (by rw [upd_length, HU.out]; omega)
      have f0 := HO.out.free (j * 4)
      have f1 := HO.out.free (j * 4 + 1)
      have f2 := HO.out.free (j * 4 + 2)
      have f3 := HO.out.free (j * 4 + 3)
      have HM := Lib.hid M4.1
      have HG := Lib.hid (grown_trans (grown_trans (grown_trans M1.2 M2.2) M3.2) M4.2)
      clear M1 M2 M3 M4
      unfold zX at c0
      unfold zY at c1
      unfold zR at c2
      unfold zS at c3
      generalize zs.getD (j * 4) 0 = x at c0 HM HG
      generalize zs.getD (j * 4 + 1) 0 = y at c1 HM HG
      generalize hr' : zs.getD (j * 4 + 2) 0 = r at c2
      generalize hs' : zs.getD (j * 4 + 3) 0 = s at c3
      rw [show j * 4 + 1 + 1 = j * 4 + 2 by omega, show j * 4 + 2 + 1 = j * 4 + 3 by omega, hr', hs'] at HM HG
      clear hr' hs'
      go_wp2_with (first | (go_at_call 49; refine (toZ_any _ _ _ _ _).mono ?_; rintro e w1 ⟨rfl, os, d, rfl⟩))
      go_roundw
      case rel =>
        refine ⟨j + 1, by omega, by go_num, ?_, ?_⟩
        · show OwnG _ _ _ _ _ _ _
          rw [show (j + 1) * 4 = j * 4 + 3 + 1 by omega]
          exact HM.out.plus _ _
        · exact below_plus (HB.out.grown HG.out HB.out.size (by intro k hk; simp at hk; omega)) _ _
      case measure => simp [intOf]; omega
    · have hlt' : ¬ (j : Int) < (n : Int) := by omega
      obtain rfl : j = n := by omega
      go_wp2
      go_ret
      refine made4 ?_ HB.out
      have := HO.out
      rw [← HZ.out, upd_copy zs us (by rw [HU.out, HZ.out])] at this
      exact this

set_option maxHeartbeats 1000000 in
theorem eqZS_any (a1 a2 : Option Addr) (c1 c2 n : Nat) (zs : List Int) (w : World) (h1 : Ints w a1 zs) (h2 : Ints w a2 zs) (hz : zs.length = n * 4) (hl : n ≤ 1000000000) :
    Calls Try.prog 25 #[.slice a1 n c1, .slice a2 n c2] w fun e w' => e = .returned (.bool true) ∧ Up w w' := by
  by_cases hn : n = 0
  · subst hn
    go_enter Try.func25, Try.ntmps25
    go_wp2
    go_loop [5] (fun i => i = .int .i64 0) (fun _ => 0)
    case atStart => rfl
    case round =>
      obtain rfl := hrel
      go_wp2
      go_ret
      exact ⟨rfl, up_of_below (Below.refl _ _)⟩
  have H1 := Lib.hid h1
  have H2 := Lib.hid h2
  have HZ := Lib.hid hz
  clear hz
  obtain ⟨b1, o1, rfl, _⟩ := h1.zone HZ.out (show 0 < n by omega)
  obtain ⟨b2, o2, rfl, _⟩ := h2.zone HZ.out (show 0 < n by omega)
  clear h1 h2
  go_enter Try.func25, Try.ntmps25
  go_wp2
  go_loopw [5] (fun i wr => ∃ k : Nat, k ≤ n ∧ i = .int .i64 k ∧ ∃ os d, wr = plus w os d) (fun i _ => n - (intOf i).toNat)
  case atStart => exact ⟨0, Nat.zero_le _, rfl, #[], _, plus_id.symm⟩
  case round =>
    obtain ⟨k, hk, rfl, os, d, rfl⟩ := hrel
    by_cases hlt : k < n
    · obtain ⟨b1', o1', e1, l1, p0, p1, p2, p3⟩ := H1.out.zone HZ.out hlt
      obtain ⟨b2', o2', e2, l2, q0, q1, q2, q3⟩ := H2.out.zone HZ.out hlt
      simp only [Option.some.injEq, Addr.mk.injEq, and_true] at e1 e2
      obtain ⟨rfl, rfl⟩ := e1
      obtain ⟨rfl, rfl⟩ := e2
      generalize zX zs k = x at p0 q0
      generalize zY zs k = y at p1 q1
      generalize zR zs k = r at p2 q2
      generalize zS zs k = s at p3 q3
      have hlt' : (k : Int) < (n : Int) := by omega
      go_wp2
      go_region_held3 (fun W => W.cell? ⟨b1, o1 + k * 4, none⟩ = some (.int .i64 x) ∧ W.cell? ⟨b1, o1 + k * 4 + 1, none⟩ = some (.int .i64 y) ∧ W.cell? ⟨b1, o1 + k * 4 + 2, none⟩ = some (.int .i64 r) ∧ W.cell? ⟨b1, o1 + k * 4 + 3, none⟩ = some (.int .i64 s) ∧ W.cell? ⟨b2, o2 + k * 4, none⟩ = some (.int .i64 x) ∧ W.cell? ⟨b2, o2 + k * 4 + 1, none⟩ = some (.int .i64 y) ∧ W.cell? ⟨b2, o2 + k * 4 + 2, none⟩ = some (.int .i64 r) ∧ W.cell? ⟨b2, o2 + k * 4 + 3, none⟩ = some (.int .i64 s)) (simp [go_sem, p0, p1, p2, p3, q0, q1, q2, q3, l1, l2]) (first | (go_at_call 50; refine (eqZ_any _ _ _ _ _).mono ?_; rintro e w1 ⟨rfl, os, d, rfl⟩))
      go_wp2
      go_roundw
      case rel => exact ⟨k + 1, by omega, by go_num, _, _, rfl⟩
      case measure => simp [intOf]; omega
    · have hlt' : ¬ (k : Int) < (n : Int) := by omega
      go_wp2
      go_ret
      exact ⟨rfl, _, _, rfl⟩

end Go.Proofs.Ytfdpdhinigfpfaa
