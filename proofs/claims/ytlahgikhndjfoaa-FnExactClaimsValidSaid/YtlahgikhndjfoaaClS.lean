/-
  Contracts of the exact laws' helpers on lists of claims. Conditions: those that each theorem states.
-/
import Derived.Test.YtlahgikhndjfoaaCl
namespace Go.Proofs.Ytlahgikhndjfoaa
open Go.RowKit

/-- What a call owns stays where only blocks below have turned and new ones have come. -/
theorem Own.rebase {W W' : World} {os os2 : Array Obj} {d d' B : Nat} {u : Value} {zs : List Int} (h : Own (Proofs.Ytlahgikhndjfoaa.plus W os d) B u zs) (hB : W.heap.size ≤ B) (hs : W'.heap.size = W.heap.size) : Own (Proofs.Ytlahgikhndjfoaa.plus W' (os ++ os2) d') B u zs := by
  refine ⟨h.1, ?_⟩
  rcases h.2 with h0 | ⟨g, cap, cur, hv, hg, hc, r⟩
  · exact .inl h0
  · refine .inr ⟨g, cap, cur, hv, hg, ?_, r⟩
    have hc' : (W.heap ++ os)[g]? = some (.cells cur 3 (0, 0)) := hc
    show (W'.heap ++ (os ++ os2))[g]? = _
    rw [Array.getElem?_append_right (by omega)] at hc' ⊢
    rw [hs, Array.getElem?_append_left (Array.getElem?_eq_some_iff.1 hc').1]
    exact hc'

theorem int_info : (Try.prog.info? 3).map (fun i => (i.zero, i.size, i.bytes)) = some (some (.int .i64 0), 1, 8) := by kernel_rfl
theorem made_ints (n : Nat) : (madeCells (Value.int .i64 0).cells (n * 1)).toList = (List.replicate n (0 : Int)).map (Value.int .i64) := by
  apply List.ext_getElem
  · simp [madeCells, Value.cells]
  · intro i h1 h2
    simp [madeCells, Value.cells, Nat.mod_one]

set_option maxHeartbeats 1000000 in
theorem toIntS_any (a : Option Addr) (n c : Nat) (zs : List Int) (w : World) (hz : n = zs.length) (hi : Ints w a zs) (hn : n ≤ 1048576) :
    Calls Try.prog 20 #[.slice a n c] w (Made w zs) := by
  obtain ⟨i0, hi0, hz0, hz1, hz2⟩ := info_parts int_info
  have HI := Lib.hid hi
  clear hi
  have HZ := Lib.hid hz
  clear hz
  obtain ⟨us, hus⟩ : ∃ us : List Int, us = List.replicate n 0 := ⟨_, rfl⟩
  have hul : us.length = n := by rw [hus]; simp
  have hm := made_ints n
  rw [← hus] at hm
  go_enter Try.func20, Try.ntmps20
  go_wp2_with (first | (at_make; go_loud (refine wpList_make_full _ rfl _ _ 24 rfl w.heap.size 3 i0 _ 1 Try.underlying24 hi0 hz0 hz1 .i64 .i64 n n n rfl rfl rfl rfl (by rw [hz2]; omega) (by unfold maxLen; omega) (Nat.le_refl _) ?_); intro w1 hown hgrow))
  rw [hm] at hown
  have hB1 : Below w.heap.size w w1 := (Below.refl _ w).grown hgrow (Nat.le_refl _) (by simp)
  have HO1 := Lib.hid (show OwnG 3 1 w1 w.heap.size (.slice (some ⟨w.heap.size, 0, none⟩) n n) n us from hown)
  have HB1 := Lib.hid hB1
  clear hown hgrow hm hus hB1
  have HU := Lib.hid hul
  clear hul
  go_wp2
  go_loopw [4] (fun iv wr => ∃ j : Nat, j ≤ n ∧ iv = .int .i64 j ∧ Hid (OwnG 3 1 wr w.heap.size (.slice (some ⟨w.heap.size, 0, none⟩) n n) n (upd (fun i => zs.getD i 0) us j)) ∧ Hid (Below w.heap.size w wr)) (fun iv _ => n - (intOf iv).toNat)
  case atStart => exact ⟨0, Nat.zero_le _, rfl, by show OwnG _ _ _ _ _ _ _; rw [upd_zero]; exact HO1.out, HB1⟩
  case round =>
    obtain ⟨j, hj, rfl, HO, HB⟩ := hrel
    by_cases hlt : j < n
    · have hlt' : (j : Int) < (n : Int) := by omega
      rcases (HI.out.below HB.out) with h0 | ⟨blk, off, rfl, hc⟩
      · exfalso
        have := HZ.out
        rw [h0] at this
        simp at this
        omega
      · have c0 := hc j (by rw [← HZ.out]; omega)
        clear hc
        have b0 := World.block_lt_of_cell? _ _ c0
        simp only at b0
        have bg := (HO.out.lt w.heap.size rfl).2
        have M1 := HO.out.upd (show j < us.length by rw [HU.out]; omega)
        have d0 := HO.out.cell (j := j) (by rw [upd_length, HU.out]; omega)
        have f0 := HO.out.free j
        have HM := Lib.hid M1.1
        have HG := Lib.hid M1.2
        clear M1
        generalize zs.getD j 0 = x at c0 HM HG
        go_wp2
        go_roundw
        case rel =>
          refine ⟨j + 1, by omega, by go_num, ?_, ?_⟩
          · exact HM.out
          · exact HB.out.grown HG.out HB.out.size (by intro k hk; simp at hk; omega)
        case measure => simp [intOf]; omega
    · have hlt' : ¬ (j : Int) < (n : Int) := by omega
      obtain rfl : j = n := by omega
      go_wp2
      go_ret
      have := HO.out
      rw [show upd (fun i => zs.getD i 0) us j = zs by have h := upd_copy zs us (by rw [HU.out, HZ.out]); rwa [← HZ.out] at h] at this
      refine ⟨_, j, by rw [← HZ.out]; rfl, ?_, HB.out⟩
      unfold Own
      rw [← HZ.out]
      exact this

set_option maxHeartbeats 400000 in
theorem szIntS_any (a : Option Addr) (n c : Nat) (left : Int) (w : World) (h0 : 0 ≤ left) (h1 : left ≤ 1048576) (hn : n ≤ 9223372036854775807) :
    Calls Try.prog 48 #[.slice a n c, .int .i64 left] w fun e w' => e = .returned (.int .i64 (if (n : Int) ≤ left then left - (n : Int) else -1)) ∧ w = w' := by
  by_cases h : (n : Int) ≤ left
  · rw [if_pos h]
    have h' : ¬ (left - n < 0) := by omega
    go_enter Try.func48, Try.ntmps48
    go_wp2
    go_ret
    exact ⟨rfl, rfl⟩
  · rw [if_neg h]
    have h' : left - n < 0 := by omega
    go_enter Try.func48, Try.ntmps48
    go_wp2
    go_ret
    exact ⟨rfl, rfl⟩

/-- What is left of a bound: a number that is negative where two lengths are beyond it. -/
def Left2 (l1 l2 : Nat) (left : Int) (w : World) (e : Ending) (w' : World) : Prop := ∃ r : Int, e = .returned (.int .i64 r) ∧ -1 ≤ r ∧ r ≤ left ∧ (0 ≤ r → (l1 : Int) ≤ left ∧ (l2 : Int) ≤ left) ∧ Up w w'

set_option maxHeartbeats 1000000 in
theorem szClaim_any (x1 x2 : Option Addr) (l1 l2 c1 c2 : Nat) (left : Int) (w : World) (h0 : 0 ≤ left) (h1 : left ≤ 1048576) (m1 : l1 ≤ 9223372036854775807) (m2 : l2 ≤ 9223372036854775807) :
    Calls Try.prog 37 #[.agg #[.slice x1 l1 c1, .slice x2 l2 c2], .int .i64 left] w (Left2 l1 l2 left w) := by
  have H1 := Lib.hid (fun W => szIntS_any x1 l1 c1 left W h0 h1 m1)
  by_cases g1 : (l1 : Int) ≤ left
  · rw [if_pos g1] at H1
    have H2 := Lib.hid (fun W => szIntS_any x2 l2 c2 (left - l1) W (by omega) (by omega) m2)
    obtain ⟨r1, hr1⟩ : ∃ r, r = left - l1 := ⟨_, rfl⟩
    rw [← hr1] at H1 H2
    have b0 : ¬ r1 < 0 := by omega
    by_cases g2 : (l2 : Int) ≤ r1
    · rw [if_pos g2] at H2
      obtain ⟨r2, hr2⟩ : ∃ r, r = r1 - l2 := ⟨_, rfl⟩
      rw [← hr2] at H2
      have b2 : ¬ r2 < 0 := by omega
      have G : Hid (-1 ≤ r2 ∧ r2 ≤ left ∧ (0 ≤ r2 → (l1 : Int) ≤ left ∧ (l2 : Int) ≤ left)) := ⟨by omega, by omega, fun _ => ⟨g1, by omega⟩⟩
      clear hr1 hr2 g1 g2
      go_enter Try.func37, Try.ntmps37
      go_wp2_with fail
      refine (H1.out _).mono ?_
      rintro e w' ⟨rfl, rfl⟩
      go_wp2_with fail
      refine (H2.out _).mono ?_
      rintro e w' ⟨rfl, rfl⟩
      go_wp2
      go_ret
      exact ⟨r2, rfl, G.out.1, G.out.2.1, G.out.2.2, up_of_below (by repeat (first | with_reducible exact Below.refl _ _ | with_reducible apply below_alloc | with_reducible apply below_drw | with_reducible apply below_drew | with_reducible apply below_drewN | with_reducible apply below_plus | with_reducible apply below_set | (simp; done)))⟩
    · rw [if_neg g2] at H2
      clear hr1
      go_enter Try.func37, Try.ntmps37
      go_wp2_with fail
      refine (H1.out _).mono ?_
      rintro e w' ⟨rfl, rfl⟩
      go_wp2_with fail
      refine (H2.out _).mono ?_
      rintro e w' ⟨rfl, rfl⟩
      go_wp2
      go_ret
      exact ⟨-1, rfl, by omega, by omega, fun h => by omega, up_of_below (by repeat (first | with_reducible exact Below.refl _ _ | with_reducible apply below_alloc | with_reducible apply below_drw | with_reducible apply below_drew | with_reducible apply below_drewN | with_reducible apply below_plus | with_reducible apply below_set | (simp; done)))⟩
  · rw [if_neg g1] at H1
    go_enter Try.func37, Try.ntmps37
    go_wp2_with fail
    refine (H1.out _).mono ?_
    rintro e w' ⟨rfl, rfl⟩
    go_wp2
    go_ret
    exact ⟨-1, rfl, by omega, by omega, fun h => by omega, up_of_below (by repeat (first | with_reducible exact Below.refl _ _ | with_reducible apply below_alloc | with_reducible apply below_drw | with_reducible apply below_drew | with_reducible apply below_drewN | with_reducible apply below_plus | with_reducible apply below_set | (simp; done)))⟩

/-- .. for all rows of a list. -/
def LeftS (n : Nat) (rs : List (List Int)) (w : World) (e : Ending) (w' : World) : Prop := ∃ r : Int, e = .returned (.int .i64 r) ∧ -1 ≤ r ∧ r ≤ 1048576 ∧ (0 ≤ r → n ≤ 1048576 ∧ ∀ i, i < n → (hold rs i).length ≤ 1048576 ∧ (need rs i).length ≤ 1048576) ∧ Up w w'

set_option maxHeartbeats 1000000 in
theorem szClaimS_any (a : Option Addr) (n c : Nat) (rs : List (List Int)) (w : World) (hz : rs.length = n * 2) (hi : Grid w a rs) (hn : n ≤ 9223372036854775807) :
    Calls Try.prog 18 #[.slice a n c, .int .i64 1048576] w (LeftS n rs w) := by
  have HI := Lib.hid hi
  have HZ := Lib.hid hz
  clear hi hz
  by_cases h : n ≤ 1048576
  · have h' : ¬ ((1048576 : Int) - n < 0) := by omega
    go_enter Try.func18, Try.ntmps18
    go_wp2
    go_loopw [1, 5] (fun lv iv wr => ∃ (j : Nat) (l : Int), j ≤ n ∧ iv = .int .i64 j ∧ lv = .int .i64 l ∧ 0 ≤ l ∧ l ≤ 1048576 ∧ Hid (∀ i, i < j → (hold rs i).length ≤ 1048576 ∧ (need rs i).length ≤ 1048576) ∧ ∃ os d, wr = plus w os d) (fun _ iv _ => n - (intOf iv).toNat)
    case atStart => exact ⟨0, _, Nat.zero_le _, rfl, rfl, by omega, by omega, fun i hi => absurd hi (Nat.not_lt_zero _), #[], _, plus_id.symm⟩
    case round =>
      obtain ⟨j, l, hj, rfl, rfl, l0, l1, HP, os, d, rfl⟩ := hrel
      by_cases hlt : j < n
      · have hlt' : (j : Int) < (n : Int) := by omega
        obtain ⟨blk, off, x1, c1, x2, c2, rfl, hbk, d1, d2, k1, k2, r1, k3, k4, r2⟩ := HI.out.claim HZ.out hlt
        unfold maxLen at k2 k4
        have hP : Hid (((hold rs j).length : Int) ≤ l → ((need rs j).length : Int) ≤ l → ∀ i, i < j + 1 → (hold rs i).length ≤ 1048576 ∧ (need rs i).length ≤ 1048576) := fun e1 e2 i hi => by
          by_cases hij : i = j
          · subst hij; omega
          · exact HP.out i (by omega)
        have HC := Lib.hid (fun W => szClaim_any x1 x2 (hold rs j).length (need rs j).length c1 c2 l W l0 l1 (by omega) (by omega))
        clear r1 r2 k1 k2 k3 k4
        generalize (hold rs j).length = n1 at d1 HC hP
        generalize (need rs j).length = n2 at d2 HC hP
        go_wp2_with fail
        refine (HC.out _).mono ?_
        rintro e w1 ⟨r, rfl, r0, r1, hr, os', d', rfl⟩
        by_cases hneg : r < 0
        · go_wp2
          go_ret
          exact ⟨-1, rfl, by omega, by omega, fun h => by omega, _, _, rfl⟩
        · have HQ : Hid (∀ i, i < j + 1 → (hold rs i).length ≤ 1048576 ∧ (need rs i).length ≤ 1048576) := hP.out (hr (by omega)).1 (hr (by omega)).2
          clear hr hP
          go_wp2
          go_roundw
          case rel => exact ⟨j + 1, r, by omega, by go_num, rfl, by omega, by omega, HQ, _, _, rfl⟩
          case measure => simp [intOf]; omega
      · have hlt' : ¬ (j : Int) < (n : Int) := by omega
        obtain rfl : j = n := by omega
        go_wp2
        go_ret
        exact ⟨l, rfl, by omega, by omega, fun _ => ⟨h, HP.out⟩, _, _, rfl⟩
  · have h' : (1048576 : Int) - n < 0 := by omega
    go_enter Try.func18, Try.ntmps18
    go_wp2
    go_ret
    exact ⟨-1, rfl, by omega, by omega, fun h => by omega, up_of_below (Below.refl _ _)⟩

set_option maxHeartbeats 1000000 in
theorem eqClaim_any (x1 x2 y1 y2 : Option Addr) (l1 l2 c1 c2 e1 e2 : Nat) (z1 z2 : List Int) (w : World) (h1 : l1 = z1.length) (h2 : l2 = z2.length) (m1 : l1 ≤ 1000000000) (m2 : l2 ≤ 1000000000) (i1 : Ints w x1 z1) (i2 : Ints w x2 z2) (j1 : Ints w y1 z1) (j2 : Ints w y2 z2) :
    Calls Try.prog 39 #[.agg #[.slice x1 l1 c1, .slice x2 l2 c2], .agg #[.slice y1 l1 e1, .slice y2 l2 e2]] w fun e w' => e = .returned (.bool true) ∧ Up w w' := by
  have H1 := Lib.hid (fun W (h : Below w.heap.size w W) => eqInts_any x1 y1 c1 e1 l1 z1 W (i1.below h) (j1.below h) h1 m1)
  have H2 := Lib.hid (fun W (h : Below w.heap.size w W) => eqInts_any x2 y2 c2 e2 l2 z2 W (i2.below h) (j2.below h) h2 m2)
  clear i1 i2 j1 j2 h1 h2
  go_enter Try.func39, Try.ntmps39
  go_wp2_with fail
  refine (H1.out _ (by repeat (first | with_reducible exact Below.refl _ _ | with_reducible apply below_alloc | with_reducible apply below_drw | with_reducible apply below_drew | with_reducible apply below_drewN | with_reducible apply below_plus | with_reducible apply below_set | (simp; done)))).mono ?_
  rintro e w1 ⟨rfl, d, rfl⟩
  go_wp2_with fail
  refine (H2.out _ (by repeat (first | with_reducible exact Below.refl _ _ | with_reducible apply below_alloc | with_reducible apply below_drw | with_reducible apply below_drew | with_reducible apply below_drewN | with_reducible apply below_plus | with_reducible apply below_set | (simp; done)))).mono ?_
  rintro e w1 ⟨rfl, d', rfl⟩
  go_wp2
  go_ret
  exact ⟨rfl, up_of_below (by repeat (first | with_reducible exact Below.refl _ _ | with_reducible apply below_alloc | with_reducible apply below_drw | with_reducible apply below_drew | with_reducible apply below_drewN | with_reducible apply below_plus | with_reducible apply below_set | (simp; done)))⟩

end Go.Proofs.Ytlahgikhndjfoaa
