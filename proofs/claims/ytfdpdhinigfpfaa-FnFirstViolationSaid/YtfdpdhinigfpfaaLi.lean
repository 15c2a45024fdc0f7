/-
  Contracts of the functions on limits of speed (program and reference). Conditions: those that each theorem states.
-/
import Derived.Test.YtfdpdhinigfpfaaZv
import Derived.Lib.SliceRun
namespace Go.Proofs.Ytfdpdhinigfpfaa
open Go.RowKit

def sqF (x y u v : Int) : Int := (x - u) * (x - u) + (y - v) * (y - v)
/-- The least speed of the first j zones that contain the point. -/
def limN (zs : List Int) (u v : Int) : Nat → Int
  | 0 => 200
  | j + 1 => if sqF (zX zs j) (zY zs j) u v ≤ zR zs j * zR zs j then min (limN zs u v j) (zS zs j) else limN zs u v j
def limB (n : Nat) (zs : List Int) (u v : Int) : Bool := zonesB n zs && ptB u v
def limF (n : Nat) (zs : List Int) (u v : Int) : Int := if limB n zs u v = true then limN zs u v n else -1
theorem limN_bd {zs : List Int} {u v : Int} : ∀ {n : Nat}, (∀ j, j < n → okZ zs j = true) → 0 ≤ limN zs u v n ∧ limN zs u v n ≤ 200
  | 0, _ => by simp [limN]
  | n + 1, h => by
    have ih := limN_bd (u := u) (v := v) (fun j hj => h j (Nat.lt_succ_of_lt hj))
    have hb := okZ_t.1 (h n (by omega))
    rw [limN]
    split <;> omega
theorem sq_bd' {x A : Int} (h1 : -A ≤ x) (h2 : x ≤ A) : 0 ≤ x * x ∧ x * x ≤ A * A := by
  rcases Int.le_total 0 x with h | h
  · exact ⟨Int.mul_nonneg h h, Int.mul_le_mul h2 h2 h (by omega)⟩
  · have a1 := Int.mul_nonneg (show 0 ≤ -x by omega) (show 0 ≤ -x by omega)
    have a2 := Int.mul_le_mul (show -x ≤ A by omega) (show -x ≤ A by omega) (show 0 ≤ -x by omega) (show 0 ≤ A by omega)
    rw [Int.neg_mul_neg] at a1 a2
    exact ⟨a1, a2⟩
theorem sqF_bd {x y u v : Int} (h1 : -10000 ≤ x ∧ x ≤ 10000) (h2 : -10000 ≤ y ∧ y ≤ 10000) (h3 : -10000 ≤ u ∧ u ≤ 10000) (h4 : -10000 ≤ v ∧ v ≤ 10000) : 0 ≤ sqF x y u v ∧ sqF x y u v ≤ 800000000 := by
  have a := sq_bd' (x := x - u) (A := 20000) (by omega) (by omega)
  have b := sq_bd' (x := y - v) (A := 20000) (by omega) (by omega)
  unfold sqF; omega

set_option maxHeartbeats 400000 in
theorem square_any (x y u v : Int) (w : World) (h1 : -10000 ≤ x ∧ x ≤ 10000) (h2 : -10000 ≤ y ∧ y ≤ 10000) (h3 : -10000 ≤ u ∧ u ≤ 10000) (h4 : -10000 ≤ v ∧ v ≤ 10000) :
    Calls Try.prog 52 #[.agg #[.int .i64 x, .int .i64 y], .agg #[.int .i64 u, .int .i64 v]] w fun e w' => e = .returned (.int .i64 (sqF x y u v)) ∧ Up w w' := by
  have a := sq_bd' (x := x - u) (A := 20000) (by omega) (by omega)
  have b := sq_bd' (x := y - v) (A := 20000) (by omega) (by omega)
  have w1 : IntKind.i64.wrap (x - u) = x - u := IntWalk.i64_in _ (by omega)
  have w2 : IntKind.i64.wrap (y - v) = y - v := IntWalk.i64_in _ (by omega)
  have w3 : IntKind.i64.wrap ((x - u) * (x - u)) = (x - u) * (x - u) := IntWalk.i64_in _ (by omega)
  have w4 : IntKind.i64.wrap ((y - v) * (y - v)) = (y - v) * (y - v) := IntWalk.i64_in _ (by omega)
  have w5 : IntKind.i64.wrap ((x - u) * (x - u) + (y - v) * (y - v)) = sqF x y u v := IntWalk.i64_in _ (by omega)
  generalize sqF x y u v = q at w5 ⊢
  clear a b h1 h2 h3 h4
  go_enter Try.func52, Try.ntmps52
  go_wp2
  go_ret
  exact ⟨rfl, up_of_below (by repeat (first | with_reducible exact Below.refl _ _ | with_reducible apply below_alloc | with_reducible apply below_drw | with_reducible apply below_drew | with_reducible apply below_drewN | with_reducible apply below_plus | with_reducible apply below_set | (simp; done)))⟩

set_option maxHeartbeats 400000 in
theorem sSquare_any (x y u v : Int) (w : World) (h1 : -10000 ≤ x ∧ x ≤ 10000) (h2 : -10000 ≤ y ∧ y ≤ 10000) (h3 : -10000 ≤ u ∧ u ≤ 10000) (h4 : -10000 ≤ v ∧ v ≤ 10000) :
    Calls Try.prog 56 #[.agg #[.int .i64 x, .int .i64 y], .agg #[.int .i64 u, .int .i64 v]] w fun e w' => e = .returned (.int .i64 (sqF x y u v)) ∧ Up w w' := by
  have a := sq_bd' (x := x - u) (A := 20000) (by omega) (by omega)
  have b := sq_bd' (x := y - v) (A := 20000) (by omega) (by omega)
  have w1 : IntKind.i64.wrap (x - u) = x - u := IntWalk.i64_in _ (by omega)
  have w2 : IntKind.i64.wrap (y - v) = y - v := IntWalk.i64_in _ (by omega)
  have w3 : IntKind.i64.wrap ((x - u) * (x - u)) = (x - u) * (x - u) := IntWalk.i64_in _ (by omega)
  have w4 : IntKind.i64.wrap ((y - v) * (y - v)) = (y - v) * (y - v) := IntWalk.i64_in _ (by omega)
  have w5 : IntKind.i64.wrap ((x - u) * (x - u) + (y - v) * (y - v)) = sqF x y u v := IntWalk.i64_in _ (by omega)
  generalize sqF x y u v = q at w5 ⊢
  clear a b h1 h2 h3 h4
  go_enter Try.func56, Try.ntmps56
  go_wp2
  go_ret
  exact ⟨rfl, up_of_below (by repeat (first | with_reducible exact Below.refl _ _ | with_reducible apply below_alloc | with_reducible apply below_drw | with_reducible apply below_drew | with_reducible apply below_drewN | with_reducible apply below_plus | with_reducible apply below_set | (simp; done)))⟩

set_option maxHeartbeats 2000000 in
theorem l18Limit_any (a : Option Addr) (n c : Nat) (zs : List Int) (u v : Int) (w : World) (hz : zs.length = n * 4) (hi : Ints w a zs) (hB : limB n zs u v = true) :
    Calls Try.prog 51 #[.slice a n c, .agg #[.int .i64 u, .int .i64 v]] w fun e w' => e = .returned (.int .i64 (limN zs u v n)) ∧ Up w w' := by
  unfold limB at hB
  rw [Bool.and_eq_true] at hB
  have hn6 := (zonesB_t.1 hB.1).1
  have HP := Lib.hid (zonesB_t.1 hB.1).2
  have HQ := Lib.hid (ptB_t.1 hB.2)
  have HI := Lib.hid hi
  have HZ := Lib.hid hz
  clear hi hz hB
  go_enter Try.func51, Try.ntmps51
  go_wp2
  go_loopw [5, 6] (fun lv iv wr => ∃ j : Nat, j ≤ n ∧ iv = .int .i64 j ∧ lv = .int .i64 (limN zs u v j) ∧ Hid (Below w.heap.size w wr) ∧ Hid (wr.cell? ⟨w.heap.size, 0, none⟩ = some (.int .i64 u)) ∧ Hid (wr.cell? ⟨w.heap.size, 1, none⟩ = some (.int .i64 v))) (fun _ iv _ => n - (intOf iv).toNat)
  case atStart => exact ⟨0, Nat.zero_le _, rfl, rfl, (Below.refl _ _).alloc (Nat.le_refl _) _, World.cell?_alloc_new _ _ _ 0, World.cell?_alloc_new _ _ _ 1⟩
  case round =>
    obtain ⟨j, hj, rfl, rfl, HW, HU, HV⟩ := hrel
    by_cases hlt : j < n
    · have hlt' : (j : Int) < (n : Int) := by omega
      obtain ⟨blk, off, rfl, hb, c0, c1, c2, c3⟩ := (HI.out.below HW.out).zone HZ.out hlt
      have b0 := HU.out
      have b1 := HV.out
      have hK := World.block_lt_of_cell? _ _ b0
      simp only at hK
      have hok := okZ_t.1 (HP.out j hlt)
      have hlb := limN_bd (zs := zs) (u := u) (v := v) (n := j) (fun i hi => HP.out i (by omega))
      have HL : Hid (limN zs u v (j + 1) = if sqF (zX zs j) (zY zs j) u v ≤ zR zs j * zR zs j then min (limN zs u v j) (zS zs j) else limN zs u v j) := rfl
      have hsq := fun W => sSquare_any (zX zs j) (zY zs j) u v W hok.1.1 hok.1.2 HQ.out.1 HQ.out.2
      have hqb := sqF_bd hok.1.1 hok.1.2 HQ.out.1 HQ.out.2
      have hrb := sq_bd' (x := zR zs j) (A := 10000) (by omega) (by omega)
      generalize zX zs j = x at c0 hsq HL hqb
      generalize zY zs j = y at c1 hsq HL hqb
      generalize zR zs j = r at c2 HL hrb
      generalize zS zs j = s at c3 HL
      generalize limN zs u v j = l at HL hlb ⊢
      generalize sqF x y u v = q at hsq HL hqb
      obtain ⟨rr, hrr⟩ : ∃ rr, rr = r * r := ⟨_, rfl⟩
      have wr' : IntKind.i64.wrap (r * r) = rr := (IntWalk.i64_in _ (by omega)).trans hrr.symm
      rw [← hrr] at HL hrb
      clear hrr
      clear hok
      by_cases hq : q ≤ rr <;> by_cases hs : s < l
      all_goals
        have HL2 := HL
        first | rw [if_pos hq] at HL2 | rw [if_neg hq] at HL2
        go_wp2
        go_region_held3 (fun W => W.cell? ⟨blk, off + j * 4, none⟩ = some (.int .i64 x) ∧ W.cell? ⟨blk, off + j * 4 + 1, none⟩ = some (.int .i64 y) ∧ W.cell? ⟨blk, off + j * 4 + 2, none⟩ = some (.int .i64 r) ∧ W.cell? ⟨blk, off + j * 4 + 3, none⟩ = some (.int .i64 s) ∧ W.cell? ⟨w.heap.size, 0, none⟩ = some (.int .i64 u) ∧ W.cell? ⟨w.heap.size, 1, none⟩ = some (.int .i64 v)) (simp [go_sem, c0, c1, c2, c3, b0, b1, hb, hK]) (first | (go_at_call 56; refine (hsq _).mono ?_; rintro e w1 ⟨rfl, os, d, rfl⟩))
        go_wp2
        go_roundw
        case rel =>
          refine ⟨j + 1, by omega, by go_num, by rw [HL2.out] <;> first | rfl | (congr 1; omega), ?_, ?_, ?_⟩
          · exact below_plus (by first | exact HW.out | exact below_drew HW.out) _ _
          · exact (plus_cell _ _ (by first | exact hK | simpa using hK)).trans b0
          · exact (plus_cell _ _ (by first | exact hK | simpa using hK)).trans b1
        case measure => simp [intOf]; omega
    · have hlt' : ¬ (j : Int) < (n : Int) := by omega
      obtain rfl : j = n := by omega
      go_wp2
      go_ret
      exact ⟨rfl, up_of_below HW.out⟩

set_option maxHeartbeats 2000000 in
theorem sLimit_any (a : Option Addr) (n c : Nat) (zs : List Int) (u v : Int) (w : World) (hz : zs.length = n * 4) (hi : Ints w a zs) (hn : n ≤ 1000000000) :
    Calls Try.prog 26 #[.slice a n c, .agg #[.int .i64 u, .int .i64 v]] w fun e w' => e = .returned (.int .i64 (limF n zs u v)) ∧ Up w w' := by
  have hv := fun W h => sZvalid_any a n c zs W hz h hn
  have hp := fun W => sPoint_any u v W
  have hl := fun W h hB => l18Limit_any a n c zs u v W hz h hB
  have hF : ∀ b b', zonesB n zs = b → ptB u v = b' → limF n zs u v = if (b && b') = true then limN zs u v n else -1 := fun b b' h h' => by rw [limF, limB, h, h']
  have hB' : zonesB n zs = true → ptB u v = true → limB n zs u v = true := fun h h' => by rw [limB, h, h']; rfl
  cases h1 : zonesB n zs <;> cases h2 : ptB u v
  all_goals
    have HF := Lib.hid (hF _ _ h1 h2)
    try have HBB := Lib.hid (hB' h1 h2)
    rw [h1] at hv
    rw [h2] at hp
    clear hF hB' h1 h2
    go_enter Try.func26, Try.ntmps26
    go_wp2_with (first | (go_at_call 22; refine (hv _ (by first | exact hi | exact hi.alloc _)).mono ?_; rintro e w1 ⟨rfl, os, d, rfl⟩) | (go_at_call 48; refine (hp _).mono ?_; rintro e w1 ⟨rfl, os, d, rfl⟩) | (go_at_call 51; refine (hl _ (by first | exact (hi.alloc _).plus _ _ | exact ((hi.alloc _).plus _ _).plus _ _) HBB.out).mono ?_; rintro e w1 ⟨rfl, os, d, rfl⟩))
    go_ret
    exact ⟨by rw [HF.out]; rfl, up_of_below (by repeat (first | with_reducible exact Below.refl _ _ | with_reducible apply below_alloc | with_reducible apply below_drw | with_reducible apply below_drew | with_reducible apply below_drewN | with_reducible apply below_plus | with_reducible apply below_set | (simp; done)))⟩

set_option maxHeartbeats 4000000 in
theorem limit_any (a : Option Addr) (n c : Nat) (zs : List Int) (u v : Int) (w : World) (hz : zs.length = n * 4) (hi : Ints w a zs) (hn : n ≤ 1000000000) :
    Calls Try.prog 28 #[.slice a n c, .agg #[.int .i64 u, .int .i64 v]] w fun e w' => e = .returned (.int .i64 (limF n zs u v)) ∧ Up w w' := by
  have hv := fun W h => zvalid_any a n c zs W hz h hn
  have hp := fun W => point_any u v W
  have hF : ∀ b b', zonesB n zs = b → ptB u v = b' → limF n zs u v = if (b && b') = true then limN zs u v n else -1 := fun b b' h h' => by rw [limF, limB, h, h']
  cases h1 : zonesB n zs <;> cases h2 : ptB u v
  case true.true =>
    have HF : Hid (limF n zs u v = limN zs u v n) := hF _ _ h1 h2
    have hn6 := (zonesB_t.1 h1).1
    have HP := Lib.hid (zonesB_t.1 h1).2
    have HQ := Lib.hid (ptB_t.1 h2)
    have HI := Lib.hid hi
    have HZ := Lib.hid hz
    rw [h1] at hv
    rw [h2] at hp
    clear hF h1 h2
    go_enter Try.func28, Try.ntmps28
    go_wp2_with (first | (go_at_call 21; refine (hv _ (by first | exact hi | exact hi.alloc _)).mono ?_; rintro e w1 ⟨rfl, os, d, rfl⟩) | (go_at_call 47; refine (hp _).mono ?_; rintro e w1 ⟨rfl, os, d, rfl⟩))
    clear hi hz hv hp
    go_loopw [5, 18] (fun lv iv wr => ∃ j : Nat, j ≤ n ∧ iv = .int .i64 j ∧ lv = .int .i64 (limN zs u v j) ∧ Hid (Below w.heap.size w wr) ∧ Hid (wr.cell? ⟨w.heap.size, 0, none⟩ = some (.int .i64 u)) ∧ Hid (wr.cell? ⟨w.heap.size, 1, none⟩ = some (.int .i64 v))) (fun _ iv _ => n - (intOf iv).toNat)
    case atStart =>
      refine ⟨0, Nat.zero_le _, rfl, rfl, ?_, ?_, ?_⟩
      · show Below _ _ _
        repeat (first | with_reducible exact Below.refl _ _ | with_reducible apply below_alloc | with_reducible apply below_drw | with_reducible apply below_drew | with_reducible apply below_drewN | with_reducible apply below_plus | with_reducible apply below_set | (simp; done))
      · exact (plus_cell _ _ (by simp)).trans (World.cell?_alloc_new _ _ _ 0)
      · exact (plus_cell _ _ (by simp)).trans (World.cell?_alloc_new _ _ _ 1)
    case round =>
      obtain ⟨j, hj, rfl, rfl, HW, HU, HV⟩ := hrel
      by_cases hlt : j < n
      · have hlt' : (j : Int) < (n : Int) := by omega
        obtain ⟨blk, off, rfl, hb, c0, c1, c2, c3⟩ := (HI.out.below HW.out).zone HZ.out hlt
        have b0 := HU.out
        have b1 := HV.out
        have hK := World.block_lt_of_cell? _ _ b0
        simp only at hK
        have hok := okZ_t.1 (HP.out j hlt)
        have hlb := limN_bd (zs := zs) (u := u) (v := v) (n := j) (fun i hi => HP.out i (by omega))
        have HL : Hid (limN zs u v (j + 1) = if sqF (zX zs j) (zY zs j) u v ≤ zR zs j * zR zs j then min (limN zs u v j) (zS zs j) else limN zs u v j) := rfl
        have hsq := fun W => square_any (zX zs j) (zY zs j) u v W hok.1.1 hok.1.2 HQ.out.1 HQ.out.2
        have hqb := sqF_bd hok.1.1 hok.1.2 HQ.out.1 HQ.out.2
        have hrb := sq_bd' (x := zR zs j) (A := 10000) (by omega) (by omega)
        generalize zX zs j = x at c0 hsq HL hqb
        generalize zY zs j = y at c1 hsq HL hqb
        generalize zR zs j = r at c2 HL hrb
        generalize zS zs j = s at c3 HL
        generalize limN zs u v j = l at HL hlb ⊢
        generalize sqF x y u v = q at hsq HL hqb
        obtain ⟨rr, hrr⟩ : ∃ rr, rr = r * r := ⟨_, rfl⟩
        have wr' : IntKind.i64.wrap (r * r) = rr := (IntWalk.i64_in _ (by omega)).trans hrr.symm
        rw [← hrr] at HL hrb
        clear hrr
        clear hok
        by_cases hq : q ≤ rr <;> by_cases hs : s < l
        all_goals
          have HL2 := HL
          first | rw [if_pos hq] at HL2 | rw [if_neg hq] at HL2
          go_wp2
          go_region_held3 (fun W => W.cell? ⟨wr.heap.size, 0, none⟩ = some (.int .i64 x) ∧ W.cell? ⟨wr.heap.size, 1, none⟩ = some (.int .i64 y) ∧ W.cell? ⟨wr.heap.size, 2, none⟩ = some (.int .i64 r) ∧ W.cell? ⟨wr.heap.size, 3, none⟩ = some (.int .i64 s) ∧ W.cell? ⟨w.heap.size, 0, none⟩ = some (.int .i64 u) ∧ W.cell? ⟨w.heap.size, 1, none⟩ = some (.int .i64 v)) (simp [go_sem, b0, b1, hK]) (first | (go_at_call 52; refine (hsq _).mono ?_; rintro e w1 ⟨rfl, os, d, rfl⟩))
          go_wp2
          go_roundw
          case rel =>
            have hW2 := HW.out.alloc HW.out.size (.cells #[.int .i64 x, .int .i64 y, .int .i64 r, .int .i64 s] 38)
            refine ⟨j + 1, by omega, by go_num, by rw [HL2.out] <;> first | rfl | (congr 1; omega), ?_, ?_, ?_⟩
            · show Below _ _ _
              repeat (first | with_reducible exact Below.refl _ _ | with_reducible apply below_alloc | with_reducible apply below_drw | with_reducible apply below_drew | with_reducible apply below_drewN | with_reducible apply below_plus | with_reducible apply below_set | (simp; done))
              all_goals exact HW.out
            · exact (plus_cell _ _ (by simp; omega)).trans (Lib.cell?_alloc_some _ b0)
            · exact (plus_cell _ _ (by simp; omega)).trans (Lib.cell?_alloc_some _ b1)
          case measure => simp [intOf]; omega
      · have hlt' : ¬ (j : Int) < (n : Int) := by omega
        obtain rfl : j = n := by omega
        go_wp2
        go_ret
        exact ⟨by rw [HF.out]; rfl, up_of_below HW.out⟩
  all_goals
    have HF := Lib.hid (hF _ _ h1 h2)
    rw [h1] at hv
    rw [h2] at hp
    clear hF h1 h2
    go_enter Try.func28, Try.ntmps28
    go_wp2_with (first | (go_at_call 21; refine (hv _ (by first | exact hi | exact hi.alloc _)).mono ?_; rintro e w1 ⟨rfl, os, d, rfl⟩) | (go_at_call 47; refine (hp _).mono ?_; rintro e w1 ⟨rfl, os, d, rfl⟩))
    go_ret
    exact ⟨by rw [HF.out]; rfl, up_of_below (by repeat (first | with_reducible exact Below.refl _ _ | with_reducible apply below_alloc | with_reducible apply below_drw | with_reducible apply below_drew | with_reducible apply below_drewN | with_reducible apply below_plus | with_reducible apply below_set | (simp; done)))⟩

end Go.Proofs.Ytfdpdhinigfpfaa
