/-
  The walk of the law on slopes. No condition.
-/
import Derived.Test.YtfonccnpgedgfaaPrL6
import Derived.Test.YtfonccnpgedgfaaSl
namespace Go.Proofs.Ytfonccnpgedgfaa
open Go.RowKit

theorem slope_of {zs us : List Int} {n : Nat} {c : Int} (hp : pairsB n us = true) (hs : slopeB zs n = true) (hx : ∀ j, j < n → pX us j = pX zs j) (hy : ∀ j, j < n → pY us j = pY zs j + c) : slU us n = slU zs n ∧ slD us n = slD zs n := by
  obtain ⟨e1, e2⟩ := up_shift hx hy
  have h1 := (slopeB_t.1 hs).2
  have h2 : slopeB us n = true := slopeB_t.2 ⟨hp, by rw [e2]; exact h1⟩
  unfold slU slD gcdP
  rw [if_pos h2, if_pos h2, if_pos hs, if_pos hs, e1, e2]
  exact ⟨rfl, rfl⟩
/-- The plain law on slopes. -/
theorem slope_law (zs : List Int) (n : Nat) : (slD zs n = 0 → slU zs n = 0) ∧ (slD zs n ≠ 0 → 0 < slD zs n ∧ (∀ d : Int, 2 ≤ d → slU zs n % d = 0 → slD zs n % d = 0 → False) ∧
    (pairsB n (mapL (fun x _ => 3 * x - 7) zs n) = true → slU (mapL (fun x _ => 3 * x - 7) zs n) n = 3 ∧ slD (mapL (fun x _ => 3 * x - 7) zs n) n = 1) ∧
    (pairsB n (mapL (fun _ y => y + 5) zs n) = true → slU (mapL (fun _ y => y + 5) zs n) n = slU zs n ∧ slD (mapL (fun _ y => y + 5) zs n) n = slD zs n)) := by
  by_cases hs : slopeB zs n = true
  · have hp := slD_pos hs
    refine ⟨fun h => by omega, fun _ => ⟨hp, fun d hd h1 h2 => sl_low hs hd ⟨h1, h2⟩, fun hq => ?_, fun hq => ?_⟩⟩
    · have hm := fun j (hj : j < n) => mapL_at (fun x _ => 3 * x - 7) zs hj
      refine slU_line (slopeB_t.2 ⟨hq, ?_⟩) (fun j hj => by rw [(hm j hj).2, (hm j hj).1])
      have e : downF (mapL (fun x _ => 3 * x - 7) zs n) n = downF zs n := by
        unfold downF sX sXX
        rw [sumN_congr (fun j hj => (hm j hj).1), sumN_congr (f := fun j => pX (mapL (fun x _ => 3 * x - 7) zs n) j * pX (mapL (fun x _ => 3 * x - 7) zs n) j) (fun j hj => by rw [(hm j hj).1])]
      rw [e]
      exact (slopeB_t.1 hs).2
    · have hm := fun j (hj : j < n) => mapL_at (fun _ y => y + 5) zs hj
      exact slope_of hq hs (fun j hj => (hm j hj).1) (fun j hj => (hm j hj).2)
  · have h1 : slU zs n = 0 := by rw [slU, if_neg hs]
    have h2 : slD zs n = 0 := by rw [slD, if_neg hs]
    exact ⟨fun _ => h1, fun h => absurd h2 h⟩

theorem step_app2L {ops : Array Oper} {o : Oper} {a : Act} {w : World} {K : Act → World → Prop} {Q : Exit → Act → World → Prop} {E : Prop} (hgd : o.guard = none) (s x : Operand)
    (ho : o.op = .call { callee := .builtin .append, args := #[s, x], argTypes := #[25, 25] }) (B : Nat) (v : Value) (n : Nat) (zs : List Int) (hs : a.eval s = v) (hown : OwnG 32 2 w B v n zs) (b i : Nat) (y0 y1 : Int)
    (hx : a.eval x = .slice (some ⟨b, i, none⟩) 1 1) (hy0 : w.cell? ⟨b, i, none⟩ = some (.int .i64 y0)) (hy1 : w.cell? ⟨b, i + 1, none⟩ = some (.int .i64 y1)) (hlen : n ≤ 1000000000) (hB : B ≤ w.heap.size)
    (h : ∀ v' w', OwnG 32 2 w' B v' (n + 1) (zs ++ [y0, y1]) → w.grownBy w' v.ownBlock → (∀ g, v'.ownBlock = some g → v.ownBlock = some g ∨ g = w.heap.size) → K (a.put o.dst v') w') : if Region.wanted o (yielded ops a.tmps) = true then Oper.wp Try.prog o a w K Q else E := by
  obtain ⟨i0, hi, hz0, hz1, hz2⟩ := info_parts infoE
  refine step_append_lies w hgd s x 25 ho B 32 i0 _ 2 16 Try.underlying25 hi hz0 hz1 hz2 rfl (by decide) v n _ hs hown ⟨b, i, none⟩ 1 1 [.int .i64 y0, .int .i64 y1] hx rfl ?_ ?_ (by decide) (by unfold maxLen; omega) (by omega) hB _ rfl ?_
  · intro j u hj
    match j, hj with
    | 0, hj => simp at hj; subst hj; simpa [Addr.add] using hy0
    | 1, hj => simp at hj; subst hj; simpa [Addr.add] using hy1
  · intro u hu; simp at hu; rcases hu with rfl | rfl <;> rfl
  · intro g cap w' h1 h2 h3 _
    refine h _ w' ?_ h2 ?_
    · unfold OwnG
      simpa using h1
    · intro g' hg'
      simp only [Value.ownBlock, Option.some.injEq] at hg'
      subst hg'
      exact h3
theorem OwnG.kept' {T : TypeId} {k : Nat} {w w' : World} {B : Nat} {v : Value} {n : Nat} {zs : List Int} {r : Option Nat} (h : OwnG T k w B v n zs) (hg : w.grownBy w' r) (hne : ∀ g, r = some g → v.ownBlock ≠ some g) : OwnG T k w' B v n zs := by
  refine World.ownsRow.kept h hg ?_
  cases hv : v.ownBlock with
  | none => exact .inl rfl
  | some g => exact .inr (fun e => hne g e.symm (by rw [hv]))

set_option maxHeartbeats 2000000 in
theorem lawFitSlope_any (a : Option Addr) (n c : Nat) (w : World) (hb : Bytes w w.heap.size a n) (hnc : n ≤ c) (hcm : c ≤ maxLen) :
    Calls Try.prog 10 #[.slice a n c] w fun e w' => e = .returned (.bool true) ∧ Up w w' := by
  have hmm : c ≤ 9223372036854775807 := by unfold maxLen at hcm; omega
  by_cases hn : n ≤ 1048576
  · go_enter Try.func10, Try.ntmps10
    go_wp2_with (go_at_call 28; refine (drawFitSlope_any _ _ _ _ hb hnc hcm).mono ?_; rintro e w1 ⟨m, zs, a1, c1, rfl, hD⟩)
    have hz := hD.2.1.len
    obtain ⟨hmc, hc1⟩ := hD.short
    have hm21 := hD.1.1
    have HP := Lib.hid hD.1
    have HI := Lib.hid hD.2.1.ints.2
    have HW := Lib.hid hD.2.2
    have HZ := Lib.hid hz
    clear hD hz hb
    have C1 := Lib.hid (fun W h => slope_any a1 m c1 zs W HZ.out h (by omega))
    have C2 := Lib.hid (fun W h => sSlope_any a1 m c1 zs W HZ.out h (by omega))
    obtain ⟨hL0, hL1⟩ := slope_law zs m
    generalize slU zs m = U at C1 C2 hL0 hL1
    generalize slD zs m = D at C1 C2 hL0 hL1
    have HL1 := Lib.hid hL1
    clear hL1
    go_wp2_with fail
    refine (C1.out _ HI.out).mono ?_
    rintro e w2 ⟨rfl, hU⟩
    have HI2 := Lib.hid (HI.out.below hU.below)
    have HW2 := Lib.hid (HW.out.trans (hU.below.mono HW.out.size))
    clear hU
    go_wp2_with fail
    refine (C2.out _ HI2.out).mono ?_
    rintro e w4 ⟨rfl, hU⟩
    have HI4 := Lib.hid (HI2.out.below hU.below)
    have HW4 := Lib.hid (HW2.out.trans (hU.below.mono HW2.out.size))
    clear hU HI HI2 HW HW2 C1 C2
    by_cases hD0 : D = 0
    · subst hD0
      obtain rfl := hL0 rfl
      clear HL1
      go_wp2_with (first | (go_at_call 24; refine (alive_any _).mono ?_; rintro e w' ⟨rfl, rfl⟩))
      go_ret
      exact ⟨rfl, up_of_below HW4.out⟩
    · obtain ⟨hDp, hlow, hline, hsh⟩ := HL1.out hD0
      have HLow := Lib.hid hlow
      have HLine := Lib.hid hline
      have HSh := Lib.hid hsh
      clear hL0 HL1 hlow hline hsh
      obtain ⟨B, hB⟩ : ∃ B, B = w4.heap.size := ⟨_, rfl⟩
      have HB := Lib.hid hB
      clear hB
      have hDe : (D == 0) = false := by simp; omega
      go_wp2
      clear hDe
      go_loopw [8, 9, 10] (fun v1 v2 iv wr => ∃ j : Nat, j ≤ m ∧ iv = .int .i64 j ∧ Hid (OwnG 32 2 wr B v1 j (mapL (fun x _ => 3 * x - 7) zs j)) ∧ Hid (OwnG 32 2 wr B v2 j (mapL (fun _ y => y + 5) zs j)) ∧ Hid (∀ g, v1.ownBlock = some g → v2.ownBlock ≠ some g) ∧ Hid (Below B w4 wr)) (fun _ _ iv _ => m - (intOf iv).toNat)
      case atStart =>
        refine ⟨0, Nat.zero_le _, rfl, ?_, ?_, ?_, ?_⟩
        · show OwnG _ _ _ _ _ _ _
          rw [HB.out]
          exact (OwnG.made _ _ _ _ (Nat.le_refl _)).alloc _
        · show OwnG _ _ _ _ _ _ _
          rw [HB.out]
          have := OwnG.made 32 2 (w4.alloc (.cells #[] 32)) w4.heap.size (by simp)
          simpa [mapL] using this
        · show ∀ g, _ → _
          intro g h1 h2
          simp [Value.ownBlock] at h1 h2
          omega
        · show Below _ _ _
          rw [HB.out]
          exact ((Below.refl _ _).alloc (Nat.le_refl _) _).alloc (by simp) _
      case round =>
        obtain ⟨j, hj, rfl, HO, HO2, HA, HV⟩ := hrel
        have hBw : B ≤ wr.heap.size := by rw [HB.out]; exact HV.out.size
        by_cases hlt : j < m
        · have hlt' : (j : Int) < (m : Int) := by omega
          obtain ⟨blk, off, rfl, hb4, c0, c1'⟩ := HI4.out.pair HZ.out hlt
          have hbB : blk < B := by rw [HB.out]; exact hb4
          have hbr : blk < wr.heap.size := by omega
          have d0 := (HV.out.cell (p := ⟨blk, off + j * 2, none⟩) hbB).trans c0
          have d1 := (HV.out.cell (p := ⟨blk, off + j * 2 + 1, none⟩) hbB).trans c1'
          have hx := (HP.out.2 j hlt).1
          have hy := (HP.out.2 j hlt).2
          have HM : Hid (mapL (fun x _ => 3 * x - 7) zs (j + 1) = mapL (fun x _ => 3 * x - 7) zs j ++ [pX zs j, 3 * pX zs j - 7]) := rfl
          have HM2 : Hid (mapL (fun _ y => y + 5) zs (j + 1) = mapL (fun _ y => y + 5) zs j ++ [pX zs j, pY zs j + 5]) := rfl
          generalize pX zs j = x at c0 d0 hx HM HM2
          generalize pY zs j = y at c1' d1 hy HM HM2
          have E0 := Lib.hid c0
          have E1 := Lib.hid c1'
          clear c0 c1'
          have wa : IntKind.i64.wrap (3 * x) = 3 * x := IntWalk.i64_in _ (by omega)
          have wb : IntKind.i64.wrap (3 * x - 7) = 3 * x - 7 := IntWalk.i64_in _ (by omega)
          have wc : IntKind.i64.wrap (y + 5) = y + 5 := IntWalk.i64_in _ (by omega)
          go_wp2
          go_region_held3 (fun W => W.cell? ⟨blk, off + j * 2, none⟩ = some (.int .i64 x) ∧ W.cell? ⟨blk, off + j * 2 + 1, none⟩ = some (.int .i64 y))
            (first
              | go_keep
              | (refine ⟨grown_far ((HO.out.alloc _).drew) hgrow hbB (by simp; omega) (((below_alloc (Below.refl _ _) _).cell (p := ⟨blk, off + j * 2, none⟩) hbr).trans d0), grown_far ((HO.out.alloc _).drew) hgrow hbB (by simp; omega) (((below_alloc (Below.refl _ _) _).cell (p := ⟨blk, off + j * 2 + 1, none⟩) hbr).trans d1)⟩))
            ((refine step_app2L (by rfl) _ _ (by rfl) B _ _ _ (by rfl) ((HO.out.alloc _).drew) wr.heap.size 0 x (3 * x - 7) (by rfl) (cell_new' (by simp) rfl) (cell_new' (by simp) rfl) (by omega) (by simp; omega) ?_; intro v1 w5 hown hgrow hlie))
          have P1 := Lib.hid hown
          have HV5 := Lib.hid ((bdrew (HV.out.alloc hBw _)).grown hgrow (by simp; omega) (fun g hg => (HO.out.lt g hg).1))
          have P2 := Lib.hid (((HO2.out.alloc _).drew).kept' hgrow (fun g hg => HA.out g hg))
          have PA := Lib.hid (show ∀ g, v1.ownBlock = some g → u9.ownBlock ≠ some g by
            intro g h1 h2
            rcases hlie g h1 with h3 | h3
            · exact HA.out g h3 h2
            · have := (HO2.out.lt g h2).2
              simp at h3; omega)
          have hBw5 : B ≤ w5.heap.size := by rw [HB.out]; exact HV5.out.size
          have d0' := (HV5.out.cell (p := ⟨blk, off + j * 2, none⟩) hbB).trans E0.out
          have d1' := (HV5.out.cell (p := ⟨blk, off + j * 2 + 1, none⟩) hbB).trans E1.out
          have hbr5 : blk < w5.heap.size := by omega
          clear hown hgrow hlie d0 d1
          go_wp2
          go_region_held3 (fun W => W.cell? ⟨blk, off + j * 2, none⟩ = some (.int .i64 x) ∧ W.cell? ⟨blk, off + j * 2 + 1, none⟩ = some (.int .i64 y))
            (first
              | go_keep
              | (refine ⟨grown_far ((P2.out.alloc _).drew) hgrow hbB (by simp; omega) (((below_alloc (Below.refl _ _) _).cell (p := ⟨blk, off + j * 2, none⟩) hbr5).trans d0'), grown_far ((P2.out.alloc _).drew) hgrow hbB (by simp; omega) (((below_alloc (Below.refl _ _) _).cell (p := ⟨blk, off + j * 2 + 1, none⟩) hbr5).trans d1')⟩))
            ((refine step_app2L (by rfl) _ _ (by rfl) B _ _ _ (by rfl) ((P2.out.alloc _).drew) w5.heap.size 0 x (y + 5) (by rfl) (cell_new' (by simp) rfl) (cell_new' (by simp) rfl) (by omega) (by simp; omega) ?_; intro v2 w6 hown hgrow hlie))
          have R2 := Lib.hid hown
          have HV6 := Lib.hid ((bdrew (HV5.out.alloc hBw5 _)).grown hgrow (by simp; omega) (fun g hg => (P2.out.lt g hg).1))
          have R1 := Lib.hid (((P1.out.alloc _).drew).kept' hgrow (fun g hg h => PA.out g h hg))
          have RA := Lib.hid (show ∀ g, v1.ownBlock = some g → v2.ownBlock ≠ some g by
            intro g h1 h2
            rcases hlie g h2 with h3 | h3
            · exact PA.out g h1 h3
            · have := (P1.out.lt g h1).2
              simp at h3; omega)
          clear hown hgrow hlie d0' d1' P1 P2 PA HV5
          go_wp2
          go_roundw
          case rel =>
            refine ⟨j + 1, by omega, by go_num, ?_, ?_, RA, HV6⟩
            · show OwnG _ _ _ _ _ _ _
              rw [HM.out]
              exact R1.out
            · show OwnG _ _ _ _ _ _ _
              rw [HM2.out]
              exact R2.out
          case measure => simp [intOf]; omega
        · have hlt' : ¬ (j : Int) < (m : Int) := by omega
          obtain rfl : j = m := by omega
          have HW5 := Lib.hid (HW4.out.trans ((show Below w4.heap.size w4 wr by have := HV.out; rwa [HB.out] at this).mono HW4.out.size))
          have HF1 := Lib.hid HO.out.form
          have HF2 := Lib.hid HO2.out.form
          have ml1 := mapL_len (fun x _ => 3 * x - 7) zs j
          have ml2 := mapL_len (fun _ y => y + 5) zs j
          generalize mapL (fun x _ => 3 * x - 7) zs j = us at HLine HF1 ml1
          generalize mapL (fun _ y => y + 5) zs j = vs at HSh HF2 ml2
          obtain ⟨s1, k1, rfl, hk1, hk2, hk3⟩ := HF1.out
          obtain ⟨s2, k2, rfl, hk4, hk5, hk6⟩ := HF2.out
          have HS1 := Lib.hid hk3
          have HS2 := Lib.hid hk6
          have S1 := Lib.hid (fun W h => slope_any s1 j k1 us W ml1 h (by omega))
          have S2 := Lib.hid (fun W h => slope_any s2 j k2 vs W ml2 h (by omega))
          have V1 := Lib.hid (fun W h => valid_any s1 j k1 us W ml1 h (by omega))
          have V2 := Lib.hid (fun W h => valid_any s2 j k2 vs W ml2 h (by omega))
          generalize slU us j = U1 at HLine S1
          generalize slD us j = D1 at HLine S1
          generalize slU vs j = U2 at HSh S2
          generalize slD vs j = D2 at HSh S2
          generalize pairsB j us = b1 at HLine V1
          generalize pairsB j vs = b2 at HSh V2
          clear hk1 hk2 hk3 hk4 hk5 hk6 ml1 ml2 HF1 HF2 HO HO2 HA HV HI4 HW4
          go_wp2_with fail
          refine (S1.out _ HS1.out).mono ?_
          rintro e w6 ⟨rfl, hU⟩
          have T1 := Lib.hid (HS1.out.below hU.below)
          have T2 := Lib.hid (HS2.out.below hU.below)
          have HW6 := Lib.hid (HW5.out.trans (hU.below.mono HW5.out.size))
          clear hU
          go_wp2_with fail
          refine (S2.out _ T2.out).mono ?_
          rintro e w7 ⟨rfl, hU⟩
          have X1 := Lib.hid (T1.out.below hU.below)
          have X2 := Lib.hid (T2.out.below hU.below)
          have HW7 := Lib.hid (HW6.out.trans (hU.below.mono HW6.out.size))
          clear hU T1 T2 HS1 HS2 S1 S2 HW5 HW6
          go_wp2
          go_loopw [15] (fun dv wr => ∃ d : Nat, 2 ≤ d ∧ d ≤ 50 ∧ dv = .int .i64 d ∧ wr = w7) (fun dv _ => 50 - (intOf dv).toNat)
          case atStart => exact ⟨2, by omega, by omega, rfl, rfl⟩
          case round =>
            obtain ⟨d, hd2, hd50, rfl, rfl⟩ := hrel
            by_cases hlt : d < 50
            · have hltd : (d : Int) < 50 := by omega
              have hdne : (d : Int) ≠ 0 := by omega
              have hlow := HLow.out d (by omega)
              by_cases hu0 : U.tmod d = 0
              · by_cases hv0 : D % d = 0
                · exact absurd (hlow (Int.emod_eq_zero_of_dvd (Int.dvd_of_tmod_eq_zero hu0)) hv0) id
                · clear hlow
                  go_wp2
                  go_roundw
                  case rel => exact ⟨d + 1, by omega, by omega, by go_num, by first | rfl | trivial⟩
                  case measure => simp [intOf]; omega
              · clear hlow
                go_wp2
                go_roundw
                case rel => exact ⟨d + 1, by omega, by omega, by go_num, by first | rfl | trivial⟩
                case measure => simp [intOf]; omega
            · have hltd : ¬ (d : Int) < 50 := by omega
              cases b1
              · cases b2
                · go_wp2_with fail
                  refine (V1.out _ X1.out).mono ?_
                  rintro e w8 ⟨rfl, hU⟩
                  have Y2 := Lib.hid (X2.out.below hU.below)
                  have HW8 := Lib.hid (HW7.out.trans (hU.below.mono HW7.out.size))
                  clear hU
                  go_wp2_with fail
                  refine (V2.out _ Y2.out).mono ?_
                  rintro e w9 ⟨rfl, hU⟩
                  have HW9 := Lib.hid (HW8.out.trans (hU.below.mono HW8.out.size))
                  clear hU
                  go_wp2
                  go_ret
                  exact ⟨rfl, up_of_below HW9.out⟩
                · obtain ⟨rfl, rfl⟩ := HSh.out rfl
                  go_wp2_with fail
                  refine (V1.out _ X1.out).mono ?_
                  rintro e w8 ⟨rfl, hU⟩
                  have Y2 := Lib.hid (X2.out.below hU.below)
                  have HW8 := Lib.hid (HW7.out.trans (hU.below.mono HW7.out.size))
                  clear hU
                  go_wp2_with fail
                  refine (V2.out _ Y2.out).mono ?_
                  rintro e w9 ⟨rfl, hU⟩
                  have HW9 := Lib.hid (HW8.out.trans (hU.below.mono HW8.out.size))
                  clear hU
                  go_wp2
                  go_ret
                  exact ⟨rfl, up_of_below HW9.out⟩
              · obtain ⟨rfl, rfl⟩ := HLine.out rfl
                cases b2
                · go_wp2_with fail
                  refine (V1.out _ X1.out).mono ?_
                  rintro e w8 ⟨rfl, hU⟩
                  have Y2 := Lib.hid (X2.out.below hU.below)
                  have HW8 := Lib.hid (HW7.out.trans (hU.below.mono HW7.out.size))
                  clear hU
                  go_wp2_with fail
                  refine (V2.out _ Y2.out).mono ?_
                  rintro e w9 ⟨rfl, hU⟩
                  have HW9 := Lib.hid (HW8.out.trans (hU.below.mono HW8.out.size))
                  clear hU
                  go_wp2
                  go_ret
                  exact ⟨rfl, up_of_below HW9.out⟩
                · obtain ⟨rfl, rfl⟩ := HSh.out rfl
                  go_wp2_with fail
                  refine (V1.out _ X1.out).mono ?_
                  rintro e w8 ⟨rfl, hU⟩
                  have Y2 := Lib.hid (X2.out.below hU.below)
                  have HW8 := Lib.hid (HW7.out.trans (hU.below.mono HW7.out.size))
                  clear hU
                  go_wp2_with fail
                  refine (V2.out _ Y2.out).mono ?_
                  rintro e w9 ⟨rfl, hU⟩
                  have HW9 := Lib.hid (HW8.out.trans (hU.below.mono HW8.out.size))
                  clear hU
                  go_wp2
                  go_ret
                  exact ⟨rfl, up_of_below HW9.out⟩
  · go_enter Try.func10, Try.ntmps10
    go_wp2
    go_ret
    exact ⟨rfl, up_of_below (Below.refl _ _)⟩

end Go.Proofs.Ytfonccnpgedgfaa
