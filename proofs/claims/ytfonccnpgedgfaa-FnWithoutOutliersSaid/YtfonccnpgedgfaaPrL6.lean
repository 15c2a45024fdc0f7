/-
  The walk of the law on offsets. No condition.
-/
import Derived.Test.YtfonccnpgedgfaaPrD2
import Derived.Test.YtfonccnpgedgfaaPrM
import Derived.Test.YtfonccnpgedgfaaPf
namespace Go.Proofs.Ytfonccnpgedgfaa
open Go.RowKit

theorem Drawn2.short {w w' : World} {a : Option Addr} {n c : Nat} {v : List Int} (h : Drawn2 w (.slice a n c) n v w') : n ≤ c ∧ c ≤ 9223372036854775807 := by
  obtain ⟨a', c', e, h1, h2, _⟩ := h.2.1.form
  simp only [Value.slice.injEq] at e
  obtain ⟨_, _, rfl⟩ := e
  unfold maxLen at h2
  exact ⟨h1, h2⟩

theorem bdrew {B : Nat} {w W : World} (h : Below B w W) : Below B w W.drew := ⟨h.os, h.tape, h.output, h.size, h.block⟩

set_option maxHeartbeats 4000000 in
theorem lawFitOffset_any (a : Option Addr) (n c : Nat) (w : World) (hb : Bytes w w.heap.size a n) (hnc : n ≤ c) (hcm : c ≤ maxLen) :
    Calls Try.prog 9 #[.slice a n c] w fun e w' => e = .returned (.bool true) ∧ Up w w' := by
  have hmm : c ≤ 9223372036854775807 := by unfold maxLen at hcm; omega
  by_cases hn : n ≤ 1048576
  · go_enter Try.func9, Try.ntmps9
    go_wp2_with (go_at_call 27; refine (drawFitOffset_any _ _ _ _ hb hnc hcm).mono ?_; rintro e w1 ⟨m, zs, a1, c1, rfl, hD⟩)
    have hz := hD.2.1.len
    obtain ⟨hmc, hc1⟩ := hD.short
    have hm21 := hD.1.1
    have HP := Lib.hid hD.1
    have HI := Lib.hid hD.2.1.ints.2
    have HW := Lib.hid hD.2.2
    have HZ := Lib.hid hz
    clear hD hz hb
    go_wp2_with fail
    refine (fit_any _ _ _ zs _ HZ.out HI.out (by omega)).mono ?_
    rintro e w2 ⟨rfl, hU⟩
    have HI2 := Lib.hid (HI.out.below hU.below)
    have HW2 := Lib.hid (HW.out.trans (hU.below.mono HW.out.size))
    clear hU
    go_wp2_with fail
    refine (sFit_any _ _ _ zs _ HZ.out HI2.out (by omega)).mono ?_
    rintro e w3 ⟨rfl, hU⟩
    have HI3 := Lib.hid (HI2.out.below hU.below)
    have HW3 := Lib.hid (HW2.out.trans (hU.below.mono HW2.out.size))
    clear hU HI HI2 HW HW2
    go_wp2_with fail
    refine (sValid_any _ _ _ zs _ HZ.out HI3.out (by omega)).mono ?_
    rintro e w' ⟨rfl, rfl⟩
    cases hp : pairsB m zs
    · have hf : fitF zs m = 0 := by rw [fitF, hp]; rfl
      rw [hf]
      go_wp2_with (first | (go_at_call 24; refine (alive_any _).mono ?_; rintro e w' ⟨rfl, rfl⟩))
      go_ret
      exact ⟨rfl, up_of_below HW3.out⟩
    · have hf : fitF zs m = fitG zs m := by rw [fitF, if_pos hp]
      obtain ⟨⟨ob1, ob2⟩, hl1, hl2, hl3⟩ := fit_law HP.out hp
      have HL3 := Lib.hid hl3
      rw [hf]
      clear hf hl3
      have eM := fun W h => err_any a1 m c1 zs (fitG zs m - 1) W HZ.out h (by omega)
      have eP := fun W h => err_any a1 m c1 zs (fitG zs m + 1) W HZ.out h (by omega)
      have e0 := fun W h => err_any a1 m c1 zs (fitG zs m) W HZ.out h (by omega)
      generalize errF zs (fitG zs m - 1) m = E1 at eM hl1
      generalize errF zs (fitG zs m + 1) m = E2 at eP hl2
      generalize errF zs (fitG zs m) m = E0 at e0 hl1 hl2
      generalize fitG zs m = o at ob1 ob2 eM eP e0 HL3
      have EM := Lib.hid eM
      have EP := Lib.hid eP
      clear eM eP
      go_wp2_with fail
      refine (e0 _ HI3.out).mono ?_
      rintro e w4 ⟨rfl, hU⟩
      have HI4 := Lib.hid (HI3.out.below hU.below)
      have HW4 := Lib.hid (HW3.out.trans (hU.below.mono HW3.out.size))
      clear hU HI3 HW3 e0 hp
      obtain ⟨B, hB⟩ : ∃ B, B = w4.heap.size := ⟨_, rfl⟩
      have HB := Lib.hid hB
      clear hB
      go_wp2
      go_loopw [6, 7] (fun v' iv wr => ∃ j : Nat, j ≤ m ∧ iv = .int .i64 j ∧ Hid (OwnG 32 2 wr B v' j (mapL (fun _ y => y + 1) zs j)) ∧ Hid (Below B w4 wr)) (fun _ iv _ => m - (intOf iv).toNat)
      case atStart =>
        refine ⟨0, Nat.zero_le _, rfl, ?_, ?_⟩
        · show OwnG _ _ _ _ _ _ _
          rw [HB.out]
          exact OwnG.made _ _ _ _ (Nat.le_refl _)
        · show Below _ _ _
          rw [HB.out]
          exact (Below.refl _ _).alloc (Nat.le_refl _) _
      case round =>
        obtain ⟨j, hj, rfl, HO, HV⟩ := hrel
        have hBw : B ≤ wr.heap.size := by rw [HB.out]; exact HV.out.size
        by_cases hlt : j < m
        · have hlt' : (j : Int) < (m : Int) := by omega
          obtain ⟨blk, off, rfl, hb4, c0, c1'⟩ := HI4.out.pair HZ.out hlt
          have hbB : blk < B := by rw [HB.out]; exact hb4
          have hbr : blk < wr.heap.size := by omega
          have d0 := (HV.out.cell (p := ⟨blk, off + j * 2, none⟩) hbB).trans c0
          have d1 := (HV.out.cell (p := ⟨blk, off + j * 2 + 1, none⟩) hbB).trans c1'
          have hx := (HP.out.2 j hlt).1
          have hy := (HP.out.2 j hlt).2
          have HM : Hid (mapL (fun _ y => y + 1) zs (j + 1) = mapL (fun _ y => y + 1) zs j ++ [pX zs j, pY zs j + 1]) := rfl
          clear c0 c1'
          generalize pX zs j = x at d0 hx HM
          generalize pY zs j = y at d1 hy HM
          have wa : IntKind.i64.wrap (y + 1) = y + 1 := IntWalk.i64_in _ (by omega)
          go_wp2
          go_region_held3 (fun W => W.cell? ⟨blk, off + j * 2, none⟩ = some (.int .i64 x) ∧ W.cell? ⟨blk, off + j * 2 + 1, none⟩ = some (.int .i64 y))
            (first
              | go_keep
              | (refine ⟨grown_far ((HO.out.alloc _).drew) hgrow hbB (by simp; omega) (((below_alloc (Below.refl _ _) _).cell (p := ⟨blk, off + j * 2, none⟩) hbr).trans d0), grown_far ((HO.out.alloc _).drew) hgrow hbB (by simp; omega) (((below_alloc (Below.refl _ _) _).cell (p := ⟨blk, off + j * 2 + 1, none⟩) hbr).trans d1)⟩))
            ((refine step_app2 (by rfl) _ _ (by rfl) B _ _ _ (by rfl) ((HO.out.alloc _).drew) wr.heap.size 0 x (y + 1) (by rfl) (cell_new' (by simp) rfl) (cell_new' (by simp) rfl) (by omega) (by simp; omega) ?_; intro v1 w1 hown hgrow))
          have HO1 := Lib.hid hown
          have HG1 := Lib.hid hgrow
          clear hown hgrow
          go_wp2
          go_roundw
          case rel =>
            refine ⟨j + 1, by omega, by go_num, ?_, ?_⟩
            · show OwnG _ _ _ _ _ _ _
              rw [HM.out]
              exact HO1.out
            · show Below _ _ _
              exact (bdrew (HV.out.alloc hBw _)).grown HG1.out (by simp; omega) (fun g hg => (HO.out.lt g hg).1)
          case measure => simp [intOf]; omega
        · have hlt' : ¬ (j : Int) < (m : Int) := by omega
          obtain rfl : j = m := by omega
          have hW5 := HW4.out.trans ((show Below w4.heap.size w4 wr by have := HV.out; rwa [HB.out] at this).mono HW4.out.size)
          have HI5 := Lib.hid (HI4.out.below (show Below w4.heap.size w4 wr by have := HV.out; rwa [HB.out] at this))
          have HW5 := Lib.hid hW5
          have HS5 := Lib.hid HO.out.form
          clear hW5 HI4 HW4 HV
          have ba : IntKind.i64.wrap (o - 1) = o - 1 := IntWalk.i64_in _ (by omega)
          have bc : IntKind.i64.wrap (o + 1) = o + 1 := IntWalk.i64_in _ (by omega)
          have hl1' : ¬ E1 < E0 := by omega
          have hl2' : ¬ E2 < E0 := by omega
          obtain ⟨sa, cs, rfl, hs1, hs2, hs3⟩ := HS5.out
          have HS := Lib.hid hs3
          clear hs3 hs1 hs2 HS5 HO
          have hml := mapL_len (fun _ y => y + 1) zs j
          have c1 := fun W h => valid_any sa j cs (mapL (fun _ y => y + 1) zs j) W hml h (by omega)
          have c2 := fun W h => fit_any sa j cs (mapL (fun _ y => y + 1) zs j) W hml h (by omega)
          have HL4 := HL3
          cases hq : pairsB j (mapL (fun _ y => y + 1) zs j)
          · rw [hq] at c1
            clear hml c2 hq HL3 HL4
            go_wp2_with fail
            refine (EM.out _ HI5.out).mono ?_
            rintro e w6 ⟨rfl, hU⟩
            have HI6 := Lib.hid (HI5.out.below hU.below)
            have HS6 := Lib.hid (HS.out.below hU.below)
            have HW6 := Lib.hid (HW5.out.trans (hU.below.mono HW5.out.size))
            clear hU
            go_wp2_with fail
            refine (EP.out _ HI6.out).mono ?_
            rintro e w7 ⟨rfl, hU⟩
            have HS7 := Lib.hid (HS6.out.below hU.below)
            have HW7 := Lib.hid (HW6.out.trans (hU.below.mono HW6.out.size))
            clear hU
            go_wp2_with fail
            refine (c1 _ HS7.out).mono ?_
            rintro e w8 ⟨rfl, hU⟩
            have HW8 := Lib.hid (HW7.out.trans (hU.below.mono HW7.out.size))
            clear hU c1
            go_wp2
            go_ret
            exact ⟨rfl, up_of_below HW8.out⟩
          · rw [hq] at c1
            have hfit := HL4.out hq
            rw [hfit] at c2
            clear hml hfit HL3 HL4 hq
            go_wp2_with fail
            refine (EM.out _ HI5.out).mono ?_
            rintro e w6 ⟨rfl, hU⟩
            have HI6 := Lib.hid (HI5.out.below hU.below)
            have HS6 := Lib.hid (HS.out.below hU.below)
            have HW6 := Lib.hid (HW5.out.trans (hU.below.mono HW5.out.size))
            clear hU
            go_wp2_with fail
            refine (EP.out _ HI6.out).mono ?_
            rintro e w7 ⟨rfl, hU⟩
            have HS7 := Lib.hid (HS6.out.below hU.below)
            have HW7 := Lib.hid (HW6.out.trans (hU.below.mono HW6.out.size))
            clear hU
            go_wp2_with fail
            refine (c1 _ HS7.out).mono ?_
            rintro e w8 ⟨rfl, hU⟩
            have HS8 := Lib.hid (HS7.out.below hU.below)
            have HW8 := Lib.hid (HW7.out.trans (hU.below.mono HW7.out.size))
            clear hU c1
            go_wp2_with fail
            refine (c2 _ HS8.out).mono ?_
            rintro e w9 ⟨rfl, hU⟩
            have HW9 := Lib.hid (HW8.out.trans (hU.below.mono HW8.out.size))
            clear hU c2
            go_wp2
            go_ret
            exact ⟨rfl, up_of_below HW9.out⟩
  · go_enter Try.func9, Try.ntmps9
    go_wp2
    go_ret
    exact ⟨rfl, up_of_below (Below.refl _ _)⟩

end Go.Proofs.Ytfonccnpgedgfaa
