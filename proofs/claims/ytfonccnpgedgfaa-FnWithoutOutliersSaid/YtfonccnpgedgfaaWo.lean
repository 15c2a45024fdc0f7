/-
  Contracts of the functions that take the outliers away (program and reference). Conditions: those that each theorem states.
-/
import Derived.Test.YtfonccnpgedgfaaPf
import Derived.Test.YtfonccnpgedgfaaApp
namespace Go.Proofs.Ytfonccnpgedgfaa
open Go.RowKit

/-- Pair j is kept. -/
def keepB (zs : List Int) (o l : Int) (j : Nat) : Bool := decide (max (pD zs j - o) (-(pD zs j - o)) ≤ l)
def outL (zs : List Int) (o l : Int) : Nat → List Int
  | 0 => []
  | j + 1 => outL zs o l j ++ (if keepB zs o l j = true then [pX zs j, pY zs j] else [])
def outC (zs : List Int) (o l : Int) : Nat → Nat
  | 0 => 0
  | j + 1 => outC zs o l j + (if keepB zs o l j = true then 1 else 0)
theorem outC_le (zs : List Int) (o l : Int) : ∀ j, outC zs o l j ≤ j
  | 0 => Nat.le_refl _
  | j + 1 => by have := outC_le zs o l j; rw [outC]; split <;> omega
theorem outL_len (zs : List Int) (o l : Int) : ∀ j, (outL zs o l j).length = outC zs o l j * 2
  | 0 => rfl
  | j + 1 => by
    rw [outL, outC, List.length_append, outL_len zs o l j]
    split <;> simp <;> omega
def woB (zs : List Int) (l : Int) (n : Nat) : Bool := pairsB n zs && decide (0 ≤ l)
def woF (zs : List Int) (l : Int) (n : Nat) : List Int := if woB zs l n = true then outL zs (fitG zs n) l n else []
def woC (zs : List Int) (l : Int) (n : Nat) : Nat := if woB zs l n = true then outC zs (fitG zs n) l n else 0
theorem woC_le (zs : List Int) (l : Int) (n : Nat) : woC zs l n ≤ n := by unfold woC; split; exact outC_le _ _ _ _; omega
theorem woF_len (zs : List Int) (l : Int) (n : Nat) : (woF zs l n).length = woC zs l n * 2 := by unfold woF woC; split; exact outL_len _ _ _ _; rfl
theorem Made2.as {w : World} {n n' : Nat} {zs zs' : List Int} {e : Ending} {w' : World} (h : Made2 w n zs e w') (hn : n = n') (hz : zs = zs') : Made2 w n' zs' e w' := by subst hn hz; exact h

set_option maxHeartbeats 4000000 in
theorem wo_any (a : Option Addr) (n c : Nat) (zs : List Int) (l : Int) (w : World) (hz : zs.length = n * 2) (hi : Ints w a zs) (hn : n ≤ 1000000000) :
    Calls Try.prog 30 #[.slice a n c, .int .i64 l] w (Made2 w (woC zs l n) (woF zs l n)) := by
  have hv := fun W h => valid_any a n c zs W hz h hn
  have hf := fun W h => fit_any a n c zs W hz h hn
  cases hp : pairsB n zs <;> rw [hp] at hv
  · have HC : Hid (woC zs l n = 0) := by show woC zs l n = 0; rw [woC, woB, hp]; rfl
    have HF : Hid (woF zs l n = []) := by show woF zs l n = []; rw [woF, woB, hp]; rfl
    go_enter Try.func30, Try.ntmps30
    go_wp2_with (first | (go_at_call 16; refine (hv _ (by first | exact hi | exact hi.alloc _)).mono ?_; rintro e w1 ⟨rfl, os, d, rfl⟩) | (go_at_call 16; refine (hv _ (by first | exact hi | exact hi.alloc _)).mono ?_; rintro e w1 ⟨rfl, rfl⟩))
    go_ret
    refine Made2.as ?_ HC.out.symm HF.out.symm
    first
      | exact made2 (OwnG.nil _ _ _ _) (by repeat (first | with_reducible exact Below.refl _ _ | with_reducible apply below_alloc | with_reducible apply below_drw | with_reducible apply below_drew | with_reducible apply below_drewN | with_reducible apply below_plus | with_reducible apply below_set | (simp; done)))
      | exact made2 (OwnG.made _ _ _ _ (Nat.le_refl _)) (by repeat (first | with_reducible exact Below.refl _ _ | with_reducible apply below_alloc | with_reducible apply below_drw | with_reducible apply below_drew | with_reducible apply below_drewN | with_reducible apply below_plus | with_reducible apply below_set | (simp; done)))
  · by_cases hl : l < 0
    · have HC : Hid (woC zs l n = 0) := by show woC zs l n = 0; rw [woC, woB, hp, decide_eq_false (by omega)]; rfl
      have HF : Hid (woF zs l n = []) := by show woF zs l n = []; rw [woF, woB, hp, decide_eq_false (by omega)]; rfl
      go_enter Try.func30, Try.ntmps30
      go_wp2_with (first | (go_at_call 16; refine (hv _ (by first | exact hi | exact hi.alloc _)).mono ?_; rintro e w1 ⟨rfl, os, d, rfl⟩) | (go_at_call 16; refine (hv _ (by first | exact hi | exact hi.alloc _)).mono ?_; rintro e w1 ⟨rfl, rfl⟩))
      go_ret
      refine Made2.as ?_ HC.out.symm HF.out.symm
      first
        | exact made2 (OwnG.nil _ _ _ _) (by repeat (first | with_reducible exact Below.refl _ _ | with_reducible apply below_alloc | with_reducible apply below_drw | with_reducible apply below_drew | with_reducible apply below_drewN | with_reducible apply below_plus | with_reducible apply below_set | (simp; done)))
        | exact made2 (OwnG.made _ _ _ _ (Nat.le_refl _)) (by repeat (first | with_reducible exact Below.refl _ _ | with_reducible apply below_alloc | with_reducible apply below_drw | with_reducible apply below_drew | with_reducible apply below_drewN | with_reducible apply below_plus | with_reducible apply below_set | (simp; done)))
    · have HC : Hid (woC zs l n = outC zs (fitG zs n) l n) := by show woC zs l n = _; rw [woC, woB, hp, decide_eq_true (by omega)]; rfl
      have HF : Hid (woF zs l n = outL zs (fitG zs n) l n) := by show woF zs l n = _; rw [woF, woB, hp, decide_eq_true (by omega)]; rfl
      have hfit : fitF zs n = fitG zs n := by rw [fitF, if_pos hp]
      rw [hfit] at hf
      have HP := Lib.hid (pairsB_t.1 hp)
      have hob := fitG_bd (zs := zs) (n := n) (A := -2000) (B := 2000) (by have := HP.out.1.1; omega) (fun j hj => pD_bd (HP.out.2 j hj))
      have HI := Lib.hid hi
      have HZ := Lib.hid hz
      have hn20 := HP.out.1.2
      clear hp hfit
      generalize fitG zs n = o at hf HC HF hob
      obtain ⟨ho1, ho2⟩ := hob
      obtain ⟨B, hB⟩ : ∃ B, B = w.heap.size := ⟨_, rfl⟩
      have HB := Lib.hid hB
      clear hB
      go_enter Try.func30, Try.ntmps30
      go_wp2_with (first | (go_at_call 16; refine (hv _ (by first | exact hi | exact hi.alloc _)).mono ?_; rintro e w1 ⟨rfl, os, d, rfl⟩) | (go_at_call 16; refine (hv _ (by first | exact hi | exact hi.alloc _)).mono ?_; rintro e w1 ⟨rfl, rfl⟩) | (go_at_call 22; refine (hf _ (by first | exact hi | exact hi.alloc _ | exact hi.plus _ _ | exact (hi.alloc _).plus _ _)).mono ?_; rintro e w1 ⟨rfl, os, d, rfl⟩))
      clear hi hz hv hf
      go_loopw [6, 21] (fun v' iv wr => ∃ j : Nat, j ≤ n ∧ iv = .int .i64 j ∧ Hid (OwnG 32 2 wr B v' (outC zs o l j) (outL zs o l j)) ∧ Hid (Below B w wr)) (fun _ iv _ => n - (intOf iv).toNat)
      case atStart =>
        refine ⟨0, Nat.zero_le _, rfl, ?_, ?_⟩
        · show OwnG _ _ _ _ _ _ _
          rw [HB.out]
          first | exact OwnG.nil _ _ _ _ | exact (OwnG.made _ _ _ _ (Nat.le_refl _)).plus _ _
        · show Below _ _ _
          rw [HB.out]
          repeat (first | with_reducible exact Below.refl _ _ | with_reducible apply below_alloc | with_reducible apply below_drw | with_reducible apply below_drew | with_reducible apply below_drewN | with_reducible apply below_plus | with_reducible apply below_set | (simp; done))
      case round =>
        obtain ⟨j, hj, rfl, HO, HW⟩ := hrel
        have hBw : B ≤ wr.heap.size := by rw [HB.out]; have := HW.out.size; exact this
        by_cases hlt : j < n
        · have hlt' : (j : Int) < (n : Int) := by omega
          have hIw : Ints wr a zs := HI.out.below (by have := HW.out; rwa [HB.out] at this)
          obtain ⟨blk, off, rfl, hb, c0, c1⟩ := hIw.pair HZ.out hlt
          clear hIw
          have hD := HP.out.2 j hlt
          have hx := (okP_t.1 hD).1
          have hy := (okP_t.1 hD).2
          have hcl := outC_le zs o l j
          have HK : Hid (keepB zs o l j = decide (max (pY zs j - pX zs j - o) (-(pY zs j - pX zs j - o)) ≤ l)) := rfl
          have HL : Hid (outL zs o l (j + 1) = outL zs o l j ++ (if keepB zs o l j = true then [pX zs j, pY zs j] else [])) := rfl
          have HCc : Hid (outC zs o l (j + 1) = outC zs o l j + (if keepB zs o l j = true then 1 else 0)) := rfl
          generalize pX zs j = x at c0 hx HK HL
          generalize pY zs j = y at c1 hy HK HL
          obtain ⟨x1, x2⟩ := hx
          obtain ⟨y1, y2⟩ := hy
          have w1 : IntKind.i64.wrap (y - x) = y - x := IntWalk.i64_in _ (by omega)
          obtain ⟨D, hDD⟩ : ∃ D, D = y - x - o := ⟨_, rfl⟩
          have w2 : IntKind.i64.wrap (y - x - o) = D := by rw [hDD]; exact IntWalk.i64_in _ (by omega)
          have wn : IntKind.i64.wrap (-D) = -D := IntWalk.i64_in _ (by omega)
          rw [← hDD] at HK
          have bD : -4000 ≤ D ∧ D ≤ 4000 := by omega
          obtain ⟨bD1, bD2⟩ := bD
          clear hD hDD
          generalize hkb : keepB zs o l j = kb at HK HL HCc
          clear hkb
          by_cases hneg : -D > D <;> by_cases hk : (if -D > D then -D else D) ≤ l
          all_goals
            first
              | rw [if_pos hneg] at hk
              | rw [if_neg hneg] at hk
          all_goals
            first
              | (have HY : Hid (kb = true) := by
                   show kb = true
                   rw [HK.out]
                   exact decide_eq_true (by omega))
              | (have HY : Hid (kb = false) := by
                   show kb = false
                   rw [HK.out]
                   exact decide_eq_false (by omega))
            have HL2 := HL
            have HC2 := HCc
            rw [HY.out] at HL2 HC2
            simp only [if_true, Bool.false_eq_true, if_false] at HL2 HC2
            go_wp2_with (first | (at_builtin; refine wpList_app2 rfl _ _ rfl B _ _ _ rfl ((HO.out.alloc _).alloc _) _ 0 x y rfl (cell_new' (by simp [World.drewN]) rfl) (cell_new' (by simp [World.drewN]) rfl) (by omega) (by simp; omega) ?_; intro v1 w1 hown hgrow))
            try (go_quiet (fail); go_wp2_with (first | (at_builtin; refine wpList_app2 rfl _ _ rfl B _ _ _ rfl ((HO.out.drewN _).alloc _) _ 0 x y rfl (cell_new' (by simp [World.drewN]) rfl) (cell_new' (by simp [World.drewN]) rfl) (by omega) (by simp [World.drewN]; omega) ?_; intro v1 w1 hown hgrow)))
            try
              (have HO1 := Lib.hid hown
               have HG1 := Lib.hid hgrow
               clear hown hgrow
               go_wp2)
            go_roundw
            case rel =>
              refine ⟨j + 1, by omega, by go_num, ?_, ?_⟩
              · show OwnG _ _ _ _ _ _ _
                rw [HL2.out, HC2.out]
                first
                  | exact HO1.out
                  | (rw [List.append_nil]; first | exact HO.out.alloc _ | exact HO.out)
              · show Below _ _ _
                first
                  | exact ((HO.out.alloc _).alloc _).step HG1.out (by simp; omega) ((HW.out.alloc hBw _).alloc (by simp; omega) _)
                  | exact ((HO.out.drewN _).alloc _).step HG1.out (by simp [World.drewN]; omega) ((Below.dN HW.out _).alloc hBw _)
                  | exact HW.out.alloc hBw _
                  | exact Below.dN HW.out _
            case measure => simp [intOf]; omega
        · have hlt' : ¬ (j : Int) < (n : Int) := by omega
          obtain rfl : j = n := by omega
          go_wp2
          go_ret
          rw [HB.out] at HO HW
          exact (made2 HO.out HW.out).as HC.out.symm HF.out.symm

set_option maxHeartbeats 4000000 in
theorem sWo_any (a : Option Addr) (n c : Nat) (zs : List Int) (l : Int) (w : World) (hz : zs.length = n * 2) (hi : Ints w a zs) (hn : n ≤ 1000000000) :
    Calls Try.prog 31 #[.slice a n c, .int .i64 l] w (Made2 w (woC zs l n) (woF zs l n)) := by
  have hv := fun W h => sValid_any a n c zs W hz h hn
  have hf := fun W h => sFit_any a n c zs W hz h hn
  cases hp : pairsB n zs <;> rw [hp] at hv
  · have HC : Hid (woC zs l n = 0) := by show woC zs l n = 0; rw [woC, woB, hp]; rfl
    have HF : Hid (woF zs l n = []) := by show woF zs l n = []; rw [woF, woB, hp]; rfl
    go_enter Try.func31, Try.ntmps31
    go_wp2_with (first | (go_at_call 14; refine (hv _ (by first | exact hi | exact hi.alloc _)).mono ?_; rintro e w1 ⟨rfl, os, d, rfl⟩) | (go_at_call 14; refine (hv _ (by first | exact hi | exact hi.alloc _)).mono ?_; rintro e w1 ⟨rfl, rfl⟩))
    go_ret
    refine Made2.as ?_ HC.out.symm HF.out.symm
    first
      | exact made2 (OwnG.nil _ _ _ _) (by repeat (first | with_reducible exact Below.refl _ _ | with_reducible apply below_alloc | with_reducible apply below_drw | with_reducible apply below_drew | with_reducible apply below_drewN | with_reducible apply below_plus | with_reducible apply below_set | (simp; done)))
      | exact made2 (OwnG.made _ _ _ _ (Nat.le_refl _)) (by repeat (first | with_reducible exact Below.refl _ _ | with_reducible apply below_alloc | with_reducible apply below_drw | with_reducible apply below_drew | with_reducible apply below_drewN | with_reducible apply below_plus | with_reducible apply below_set | (simp; done)))
  · by_cases hl : l < 0
    · have HC : Hid (woC zs l n = 0) := by show woC zs l n = 0; rw [woC, woB, hp, decide_eq_false (by omega)]; rfl
      have HF : Hid (woF zs l n = []) := by show woF zs l n = []; rw [woF, woB, hp, decide_eq_false (by omega)]; rfl
      go_enter Try.func31, Try.ntmps31
      go_wp2_with (first | (go_at_call 14; refine (hv _ (by first | exact hi | exact hi.alloc _)).mono ?_; rintro e w1 ⟨rfl, os, d, rfl⟩) | (go_at_call 14; refine (hv _ (by first | exact hi | exact hi.alloc _)).mono ?_; rintro e w1 ⟨rfl, rfl⟩))
      go_ret
      refine Made2.as ?_ HC.out.symm HF.out.symm
      first
        | exact made2 (OwnG.nil _ _ _ _) (by repeat (first | with_reducible exact Below.refl _ _ | with_reducible apply below_alloc | with_reducible apply below_drw | with_reducible apply below_drew | with_reducible apply below_drewN | with_reducible apply below_plus | with_reducible apply below_set | (simp; done)))
        | exact made2 (OwnG.made _ _ _ _ (Nat.le_refl _)) (by repeat (first | with_reducible exact Below.refl _ _ | with_reducible apply below_alloc | with_reducible apply below_drw | with_reducible apply below_drew | with_reducible apply below_drewN | with_reducible apply below_plus | with_reducible apply below_set | (simp; done)))
    · have HC : Hid (woC zs l n = outC zs (fitG zs n) l n) := by show woC zs l n = _; rw [woC, woB, hp, decide_eq_true (by omega)]; rfl
      have HF : Hid (woF zs l n = outL zs (fitG zs n) l n) := by show woF zs l n = _; rw [woF, woB, hp, decide_eq_true (by omega)]; rfl
      have hfit : fitF zs n = fitG zs n := by rw [fitF, if_pos hp]
      rw [hfit] at hf
      have HP := Lib.hid (pairsB_t.1 hp)
      have hob := fitG_bd (zs := zs) (n := n) (A := -2000) (B := 2000) (by have := HP.out.1.1; omega) (fun j hj => pD_bd (HP.out.2 j hj))
      have HI := Lib.hid hi
      have HZ := Lib.hid hz
      have hn20 := HP.out.1.2
      clear hp hfit
      generalize fitG zs n = o at hf HC HF hob
      obtain ⟨ho1, ho2⟩ := hob
      obtain ⟨B, hB⟩ : ∃ B, B = w.heap.size := ⟨_, rfl⟩
      have HB := Lib.hid hB
      clear hB
      go_enter Try.func31, Try.ntmps31
      go_wp2_with (first | (go_at_call 14; refine (hv _ (by first | exact hi | exact hi.alloc _)).mono ?_; rintro e w1 ⟨rfl, os, d, rfl⟩) | (go_at_call 14; refine (hv _ (by first | exact hi | exact hi.alloc _)).mono ?_; rintro e w1 ⟨rfl, rfl⟩) | (go_at_call 21; refine (hf _ (by first | exact hi | exact hi.alloc _ | exact hi.plus _ _ | exact (hi.alloc _).plus _ _)).mono ?_; rintro e w1 ⟨rfl, os, d, rfl⟩))
      clear hi hz hv hf
      go_loopw [5, 7] (fun v' iv wr => ∃ j : Nat, j ≤ n ∧ iv = .int .i64 j ∧ Hid (OwnG 32 2 wr B v' (outC zs o l j) (outL zs o l j)) ∧ Hid (Below B w wr)) (fun _ iv _ => n - (intOf iv).toNat)
      case atStart =>
        refine ⟨0, Nat.zero_le _, rfl, ?_, ?_⟩
        · show OwnG _ _ _ _ _ _ _
          rw [HB.out]
          first | exact OwnG.nil _ _ _ _ | exact (OwnG.made _ _ _ _ (Nat.le_refl _)).plus _ _
        · show Below _ _ _
          rw [HB.out]
          repeat (first | with_reducible exact Below.refl _ _ | with_reducible apply below_alloc | with_reducible apply below_drw | with_reducible apply below_drew | with_reducible apply below_drewN | with_reducible apply below_plus | with_reducible apply below_set | (simp; done))
      case round =>
        obtain ⟨j, hj, rfl, HO, HW⟩ := hrel
        have hBw : B ≤ wr.heap.size := by rw [HB.out]; have := HW.out.size; exact this
        by_cases hlt : j < n
        · have hlt' : (j : Int) < (n : Int) := by omega
          have hIw : Ints wr a zs := HI.out.below (by have := HW.out; rwa [HB.out] at this)
          obtain ⟨blk, off, rfl, hb, c0, c1⟩ := hIw.pair HZ.out hlt
          clear hIw
          have hD := HP.out.2 j hlt
          have hx := (okP_t.1 hD).1
          have hy := (okP_t.1 hD).2
          have hcl := outC_le zs o l j
          have HK : Hid (keepB zs o l j = decide (max (pY zs j - pX zs j - o) (-(pY zs j - pX zs j - o)) ≤ l)) := rfl
          have HL : Hid (outL zs o l (j + 1) = outL zs o l j ++ (if keepB zs o l j = true then [pX zs j, pY zs j] else [])) := rfl
          have HCc : Hid (outC zs o l (j + 1) = outC zs o l j + (if keepB zs o l j = true then 1 else 0)) := rfl
          generalize pX zs j = x at c0 hx HK HL
          generalize pY zs j = y at c1 hy HK HL
          obtain ⟨x1, x2⟩ := hx
          obtain ⟨y1, y2⟩ := hy
          have w1 : IntKind.i64.wrap (y - x) = y - x := IntWalk.i64_in _ (by omega)
          obtain ⟨D, hDD⟩ : ∃ D, D = y - x - o := ⟨_, rfl⟩
          have w2 : IntKind.i64.wrap (y - x - o) = D := by rw [hDD]; exact IntWalk.i64_in _ (by omega)
          have wn : IntKind.i64.wrap (-D) = -D := IntWalk.i64_in _ (by omega)
          rw [← hDD] at HK
          have bD : -4000 ≤ D ∧ D ≤ 4000 := by omega
          obtain ⟨bD1, bD2⟩ := bD
          clear hD hDD
          generalize hkb : keepB zs o l j = kb at HK HL HCc
          clear hkb
          by_cases hneg : -D > D <;> by_cases hk : (if -D > D then -D else D) ≤ l
          all_goals
            first
              | rw [if_pos hneg] at hk
              | rw [if_neg hneg] at hk
          all_goals
            first
              | (have HY : Hid (kb = true) := by
                   show kb = true
                   rw [HK.out]
                   exact decide_eq_true (by omega))
              | (have HY : Hid (kb = false) := by
                   show kb = false
                   rw [HK.out]
                   exact decide_eq_false (by omega))
            have HL2 := HL
            have HC2 := HCc
            rw [HY.out] at HL2 HC2
            simp only [if_true, Bool.false_eq_true, if_false] at HL2 HC2
            go_wp2_with (first | (at_builtin; refine wpList_app2 rfl _ _ rfl B _ _ _ rfl ((HO.out.alloc _).alloc _) _ 0 x y rfl (cell_new' (by simp [World.drewN]) rfl) (cell_new' (by simp [World.drewN]) rfl) (by omega) (by simp; omega) ?_; intro v1 w1 hown hgrow))
            try (go_quiet (fail); go_wp2_with (first | (at_builtin; refine wpList_app2 rfl _ _ rfl B _ _ _ rfl ((HO.out.drewN _).alloc _) _ 0 x y rfl (cell_new' (by simp [World.drewN]) rfl) (cell_new' (by simp [World.drewN]) rfl) (by omega) (by simp [World.drewN]; omega) ?_; intro v1 w1 hown hgrow)))
            try
              (have HO1 := Lib.hid hown
               have HG1 := Lib.hid hgrow
               clear hown hgrow
               go_wp2)
            go_roundw
            case rel =>
              refine ⟨j + 1, by omega, by go_num, ?_, ?_⟩
              · show OwnG _ _ _ _ _ _ _
                rw [HL2.out, HC2.out]
                first
                  | exact HO1.out
                  | (rw [List.append_nil]; first | exact HO.out.alloc _ | exact HO.out)
              · show Below _ _ _
                first
                  | exact ((HO.out.alloc _).alloc _).step HG1.out (by simp; omega) ((HW.out.alloc hBw _).alloc (by simp; omega) _)
                  | exact ((HO.out.drewN _).alloc _).step HG1.out (by simp [World.drewN]; omega) ((Below.dN HW.out _).alloc hBw _)
                  | exact HW.out.alloc hBw _
                  | exact Below.dN HW.out _
            case measure => simp [intOf]; omega
        · have hlt' : ¬ (j : Int) < (n : Int) := by omega
          obtain rfl : j = n := by omega
          go_wp2
          go_ret
          rw [HB.out] at HO HW
          exact (made2 HO.out HW.out).as HC.out.symm HF.out.symm

end Go.Proofs.Ytfonccnpgedgfaa
