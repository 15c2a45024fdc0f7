/-
  The contract of the program's orders of finishing robots. Conditions: those that the theorem states.
-/
import Derived.Test.YtlahgikhndjfoaaFo
import Derived.Test.YtlahgikhndjfoaaClD
namespace Go.Proofs.Ytlahgikhndjfoaa
open Go.RowKit

/-! ### plain -/
/-- What the order of finishing robots is. -/
def ordF (n : Nat) (rs : List (List Int)) (fs : List Int) : List Int := if claimsB n rs fs = true then natI (orderO rs n fs) else []
theorem upd_at {f : Nat → Int} {zs : List Int} {j : Nat} (h : j < zs.length) : (upd f zs j).getD j 0 = zs.getD j 0 := by simp [upd, h]
theorem upd_add (now hs : List Int) : upd (fun t => now.getD t 0 + hs.getD t 0) now now.length = addL now hs := by
  unfold upd addL
  refine List.map_congr_left fun i hi => ?_
  rw [if_pos (List.mem_range.1 hi)]
theorem natI_snoc (l : List Nat) (j : Nat) : natI (l ++ [j]) = natI l ++ [(j : Int)] := by simp [natI]
theorem Grid.drop {w : World} {blk off : Nat} {rs : List (List Int)} (h : Grid w (some ⟨blk, off, none⟩) rs) (k : Nat) : Grid w (some ⟨blk, off + k, none⟩) (rs.drop k) := by
  rcases h with h0 | ⟨b', o', e, hc⟩
  · exact .inl (by rw [h0]; simp)
  · simp only [Option.some.injEq, Addr.mk.injEq, and_true] at e
    obtain ⟨rfl, rfl⟩ := e
    refine .inr ⟨blk, off + k, rfl, fun i hi => ?_⟩
    rw [List.length_drop] at hi
    obtain ⟨u, h1, h2⟩ := hc (k + i) (by omega)
    refine ⟨u, by rw [Nat.add_assoc]; exact h1, ?_⟩
    rw [List.getD_eq_getElem?_getD, List.getElem?_drop, ← List.getD_eq_getElem?_getD]
    exact h2
theorem need_drop {rs : List (List Int)} {k i : Nat} : need (rs.drop (k * 2)) i = need rs (k + i) := by
  unfold need
  rw [List.getD_eq_getElem?_getD, List.getElem?_drop, List.getD_eq_getElem?_getD, show k * 2 + (i * 2 + 1) = (k + i) * 2 + 1 by omega]
theorem can_en {rs : List (List Int)} {out : List Nat} {now : List Int} {i : Nat} (h : enB (need rs i) now = false) : canB rs out now i = false := by unfold canB; rw [h]; simp
theorem can_in {rs : List (List Int)} {out : List Nat} {now : List Int} {i : Nat} (h : out.contains i = true) : canB rs out now i = false := by unfold canB; rw [h]; rfl
/-- How far the search for the next robot is: r is the place. -/
def NX (rs : List (List Int)) (n : Nat) (out : List Nat) (now : List Int) (r : Int) : Prop :=
  (r = -1 ∧ ∀ i, i < n → canB rs out now i = false) ∨ ∃ j : Nat, r = j ∧ j < n ∧ enB (need rs j) now = true ∧ ∀ i, i < j → canB rs out now i = false
/-- What is left of a search that is over at -1. -/
def msr (n : Nat) (v : Value) : Nat := if intOf v < 0 then 0 else n - (intOf v).toNat
theorem msr_end (n : Nat) : msr n (.int .i64 (-1)) = 0 := rfl
theorem msr_at (n : Nat) {z : Int} (h : 0 ≤ z) : msr n (.int .i64 z) = n - z.toNat := by
  have h1 : ¬ intOf (.int .i64 z) < 0 := by simp only [intOf]; omega
  unfold msr
  rw [if_neg h1]
  rfl
/-- A row stays where a row of later blocks has turned. -/
theorem OwnG.stay {T : TypeId} {k : Nat} {w w' : World} {B B1 g n m c : Nat} {v : Value} {zs : List Int} {zs1 : List Int} (h : OwnG T k w B (.slice (some ⟨g, 0, none⟩) m c) n zs) (h1 : Own w B1 v zs1) (hg : w.grownBy w' v.ownBlock) (hlt : g < B1) : OwnG T k w' B (.slice (some ⟨g, 0, none⟩) m c) n zs := by
  refine World.ownsRow.kept h hg (.inr ?_)
  intro e
  have := (h1.lt g e.symm).1
  omega
theorem Own.stay {w w' : World} {B g : Nat} {v : Value} {zs : List Int} (h : Own w B v zs) (hg : w.grownBy w' (some g)) (hlt : g < B) : Own w' B v zs := by
  refine World.ownsRow.kept h hg ?_
  cases hv : v.ownBlock with
  | none => exact .inl rfl
  | some k =>
    right
    intro e
    have := (h.lt k hv).1
    simp only [Option.some.injEq] at e
    omega
theorem cell_stay {w w' : World} {r : Option Nat} {b i : Nat} {u : Value} (h : w.cell? ⟨b, i, none⟩ = some u) (hg : w.grownBy w' r) (hne : r ≠ some b) : w'.cell? ⟨b, i, none⟩ = some u :=
  (World.cell?_of_block (w := w) (a := ⟨b, i, none⟩) (hg.block b (World.block_lt_of_cell? _ _ h) (fun e => hne e.symm))).trans h

set_option maxHeartbeats 4000000 in
theorem finish_any (a : Option Addr) (n c g off k kc : Nat) (rs : List (List Int)) (fs : List Int) (w : World) (hz : rs.length = n * 2) (hi : Grid w a rs) (hm : rowsMax rs 1000000000) (hn : n ≤ 1000000000) (hnc : n ≤ c) (hcm : c ≤ maxLen) (hk : k = fs.length) (hfi : Ints w (some ⟨g, off, none⟩) fs) (hk0 : 1 ≤ k) (hk1 : k ≤ 1000000000) :
    Calls Try.prog 12 #[.slice a n c, .slice (some ⟨g, off, none⟩) k kc] w (Made w (ordF n rs fs)) := by
  have HI := Lib.hid hi
  have HZ := Lib.hid hz
  have HK := Lib.hid hk
  have HFI := Lib.hid hfi
  have HV := Lib.hid (fun W (h : Below w.heap.size w W) => valid_any a (some ⟨g, off, none⟩) n c k kc rs fs W hz (hi.below h) hm hn hk (hfi.below h) hk1)
  unfold maxLen at hcm
  clear hi hz hk hfi hm
  cases hV : claimsB n rs fs <;> rw [hV] at HV
  · have HR : Hid (ordF n rs fs = []) := by show ordF n rs fs = []; unfold ordF; rw [hV]; rfl
    clear hV
    go_enter Try.func12, Try.ntmps12
    go_wp2_with fail
    refine (HV.out w (Below.refl _ _)).mono ?_
    rintro e w1 ⟨rfl, hU⟩
    go_wp2
    go_ret
    rw [HR.out]
    exact made (Own.nil _ _) hU.below
  · obtain ⟨hn6, hk4, hsm, hrow⟩ := claims_t hV
    have HR : Hid (ordF n rs fs = natI (orderO rs n fs)) := by show ordF n rs fs = _; unfold ordF; rw [if_pos hV]
    have HRow := Lib.hid hrow
    have HVal := Lib.hid hV
    have HSm := Lib.hid hsm
    rw [← HK.out] at hk4
    clear hV hrow hsm
    go_enter Try.func12, Try.ntmps12
    go_wp2_with fail
    refine (HV.out w (Below.refl _ _)).mono ?_
    rintro e w1 ⟨rfl, hU⟩
    have HW1 := Lib.hid hU.below
    clear hU HV
    go_wp2_with fail
    refine (clone_any g off k kc fs w1 HK.out (HFI.out.below HW1.out) hk1).mono ?_
    rintro e w2 ⟨a1, c1, rfl, hO, hB⟩
    have hO' : OwnG 3 1 w2 w1.heap.size (.slice a1 k c1) k fs := by
      have := hO
      unfold Own at this
      rwa [← HK.out] at this
    rw [← HK.out]
    have HW2 := Lib.hid (HW1.out.trans (hB.mono HW1.out.size))
    obtain ⟨g1, rfl, hg1, hg2⟩ : ∃ g1, a1 = some ⟨g1, 0, none⟩ ∧ w1.heap.size ≤ g1 ∧ g1 < w2.heap.size := by
      rcases hO'.2 with ⟨_, h0⟩ | ⟨g', cap, cur, e, hb, hg, _⟩
      · omega
      · simp only [Value.slice.injEq] at e
        obtain ⟨rfl, _⟩ := e
        exact ⟨g', rfl, hb, (Array.getElem?_eq_some_iff.1 hg).1⟩
    have HO2 := Lib.hid hO'
    have hw1 : w.heap.size ≤ w1.heap.size := HW1.out.size
    clear hO hO' hB
    obtain ⟨Bx, hBx⟩ : ∃ Bx, Bx = w2.heap.size := ⟨_, rfl⟩
    have HBx := Lib.hid hBx
    rw [← hBx] at hg2
    clear hBx
    go_wp2
    rw [← HBx.out]
    go_loopw [6, 19] (fun ov iv wr => ∃ m : Nat, m ≤ n ∧ iv = .int .i64 m ∧ Hid (Own wr (Bx + 1) ov (natI (runO rs n fs m).1)) ∧ Hid (OwnG 3 1 wr w1.heap.size (.slice (some ⟨g1, 0, none⟩) k c1) k (runO rs n fs m).2) ∧ Hid (wr.cell? ⟨Bx, 0, none⟩ = some (.slice (some ⟨g1, 0, none⟩) k c1)) ∧ Hid (Below w.heap.size w wr) ∧ Hid (Bx + 1 ≤ wr.heap.size)) (fun _ iv _ => n - (intOf iv).toNat)
    case atStart =>
      refine ⟨0, Nat.zero_le _, rfl, ?_, ?_, ?_, ?_, ?_⟩
      · exact Own.nil _ _
      · show OwnG _ _ _ _ _ _ _
        exact HO2.out.alloc _
      · show World.cell? _ _ = _
        rw [HBx.out]
        exact cell_new' rfl rfl
      · show Below _ _ _
        exact HW2.out.alloc HW2.out.size _
      · show _ ≤ _
        rw [HBx.out]
        simp
    case round =>
      obtain ⟨m, hm, rfl, HO, HL, HC, HW, HS⟩ := hrel
      obtain ⟨ao, co, hov, hco1, hco2, hoi⟩ := HO.out.form
      rw [natI_length] at hov hco1
      have HOI := Lib.hid hoi
      obtain ⟨L, hL⟩ : ∃ L, L = (runO rs n fs m).1.length := ⟨_, rfl⟩
      rw [← hL] at hov hco1
      have HLen := Lib.hid hL
      subst hov
      clear hoi hL
      by_cases hlt : m < n
      · have hlt' : (m : Int) < (n : Int) := by omega
        have hF1 := indexcanF1_any a (some ⟨g1, 0, none⟩) n c k c1 Bx rs (runO rs n fs m).2 wr HZ.out (HI.out.below HW.out) (fun i hi => (HRow.out i hi).2.1.trans HK.out.symm) hn (HK.out.trans run_now.symm) hk1 HL.out.ints.2 HC.out
        go_wp2_with fail
        refine hF1.mono ?_
        rintro e w3 ⟨r, rfl, hr, os3, d3, rfl⟩
        have HNX : Hid (NX rs n (runO rs n fs m).1 (runO rs n fs m).2 r) := by
          rcases hr with ⟨h1, h2⟩ | ⟨j, h1, h2, h3, h4⟩
          · exact .inl ⟨h1, fun i hi => can_en (h2 i hi)⟩
          · exact .inr ⟨j, h1, h2, h3, fun i hi => can_en (h4 i hi)⟩
        clear hr hF1
        go_wp2
        go_loopw [7] (fun nv wi => ∃ r : Int, nv = .int .i64 r ∧ Hid (NX rs n (runO rs n fs m).1 (runO rs n fs m).2 r) ∧ ∃ os d, wi = plus wr os d) (fun nv _ => msr n nv)
        case atStart => exact ⟨r, rfl, HNX, _, _, rfl⟩
        case round =>
          obtain ⟨r, rfl, HNX, os, d, rfl⟩ := hrel
          rcases HNX.out with ⟨rfl, hno⟩ | ⟨j, rfl, hj, hen, hall⟩
          · have HE : Hid (orderO rs n fs = (runO rs n fs m).1) := order_stuck (firstB_none.2 hno) hm
            clear hno
            go_wp2
            go_ret
            rw [HR.out, HE.out]
            refine ⟨ao, co, by rw [natI_length, HLen.out]; rfl, ?_, below_plus HW.out _ _⟩
            rw [natI_length]
            have := (HO.out.plus os d).more (B' := w.heap.size) (by have := HW2.out.size; have := HBx.out; omega)
            rw [HLen.out] at this
            exact this
          · have hj0 : ¬ ((j : Int) < 0) := by omega
            obtain ⟨blk, off', x1, cx1, x2, cx2, rfl, hbk, d1, d2, hl1, hl2, r1, _, _, r2⟩ := HI.out.claim HZ.out hj
            have HCt := Lib.hid (fun W (h : Below wr.heap.size wr W) => containsI_any ao L co (runO rs n fs m).1 j W HLen.out (HOI.out.below h) (by have := run_le (rs := rs) (N := n) (fs := fs) (m := m); have := HLen.out; omega))
            have HEn := Lib.hid hen
            have HAll := Lib.hid hall
            have D1 := Lib.hid d1
            have R1 := Lib.hid r1
            clear hen hall d1 d2 r1 r2 hl1 hl2
            cases hq : (runO rs n fs m).1.contains j <;> rw [hq] at HCt
            · have HNext : Hid (nextO rs n fs m = some j) := firstB_some.2 ⟨hj, by unfold canB; rw [hq, HEn.out]; rfl, HAll.out⟩
              clear hq
              go_wp2_with fail
              refine (HCt.out _ (below_plus (Below.refl _ _) _ _)).mono ?_
              rintro e w' ⟨rfl, rfl⟩
              have hw1' : w.heap.size ≤ w1.heap.size := hw1
              obtain ⟨b5, o5, rfl, hc5⟩ : ∃ b5 o5, x1 = some ⟨b5, o5, none⟩ ∧ ∀ i, i < (hold rs j).length → w.cell? ⟨b5, o5 + i, none⟩ = some (.int .i64 ((hold rs j).getD i 0)) := by
                rcases R1.out with h0 | h1
                · exfalso
                  have := (HRow.out j hj).1.1
                  rw [h0, ← HK.out] at this
                  simp at this
                  omega
                · exact h1
              have C5 := Lib.hid hc5
              obtain ⟨f, hf⟩ : ∃ f : Nat → Int, f = fun t => (runO rs n fs m).2.getD t 0 + (hold rs j).getD t 0 := ⟨_, rfl⟩
              have HFt : Hid (∀ t, f t = (runO rs n fs m).2.getD t 0 + (hold rs j).getD t 0) := fun t => by rw [hf]
              have HUk : Hid (upd f (runO rs n fs m).2 k = addL (runO rs n fs m).2 (hold rs j)) := by
                show upd f _ _ = _
                rw [hf, ← upd_add, run_now, HK.out]
              have HNw : Hid (k = (runO rs n fs m).2.length) := HK.out.trans run_now.symm
              have hlen : (hold rs j).length = k := (HRow.out j hj).1.1.trans HK.out.symm
              rw [hlen] at D1
              have HLn := Lib.hid hlen
              have HBd : Hid (∀ t, t < k → (0 ≤ (runO rs n fs m).2.getD t 0 ∧ (runO rs n fs m).2.getD t 0 ≤ 100 + 100 * (m : Int)) ∧ 0 ≤ (hold rs j).getD t 0 ∧ (hold rs j).getD t 0 ≤ 100) := fun t ht => by
                rw [HK.out] at ht
                exact ⟨now_bound HVal.out ht m, hold_small HVal.out hj ht⟩
              clear hc5 hf hlen
              go_wp2_with (
                at_builtin
                refine wpList_app rfl _ _ rfl (Bx + 1) _ (natI (runO rs n fs m).1) rfl ?_ _ (j : Int) rfl ?_ ?_ ?_ ?_
                case refine_1 => exact ((HO.out.plus os d).alloc _)
                case refine_2 => exact cell_new' (by simp [go_sem]) rfl
                case refine_3 => have := HLen.out; rw [natI_length]; have := run_le (rs := rs) (N := n) (fs := fs) (m := m); omega
                case refine_4 => have := HS.out; simp [plus_size]; omega
                intro v1 w4 hown hgrow
                have HO4 := Lib.hid hown
                have hOa := (HO.out.plus os d).alloc (.cells #[.int .i64 (j : Int)] 3)
                have HL4 := Lib.hid ((((HL.out.plus os d).alloc (.cells #[.int .i64 (j : Int)] 3))).stay hOa hgrow (by omega))
                have hBa : Below wr.heap.size wr ((plus wr os d).alloc (.cells #[.int .i64 (j : Int)] 3)) := below_alloc (below_plus (Below.refl _ _) os d) _
                have HC4 := Lib.hid (cell_stay ((hBa.cell (p := ⟨Bx, 0, none⟩) (World.block_lt_of_cell? _ _ HC.out)).trans HC.out) hgrow (fun e => by have := (hOa.lt Bx e).1; omega))
                have HW4 := Lib.hid ((HW.out.trans (hBa.mono HW.out.size)).grown hgrow (by have := HW.out.size; have := hBa.size; omega) (fun q hq => by have := (hOa.lt q hq).1; omega))
                have HS4 : Hid (Bx + 1 ≤ w4.heap.size) := by have h1 := HS.out; have h2 := hgrow.size; have h3 := hBa.size; show Bx + 1 ≤ _; omega
                have e1 := (HW4.out.cell (p := ⟨blk, off' + j * 2, none⟩) hbk).trans D1.out
                have hbk4 := Nat.lt_of_lt_of_le hbk HW4.out.size
                clear hown hgrow hOa hBa)
              go_loopw [55] (fun iv wi => ∃ t : Nat, t ≤ k ∧ iv = .int .i64 t ∧ Hid (OwnG 3 1 wi w1.heap.size (.slice (some ⟨g1, 0, none⟩) k c1) k (upd f (runO rs n fs m).2 t)) ∧ Hid (w4.grownBy wi (some g1))) (fun iv _ => k - (intOf iv).toNat)
              case atStart => exact ⟨0, Nat.zero_le _, rfl, by show OwnG _ _ _ _ _ _ _; rw [upd_zero]; exact HL4.out, World.grownBy.refl _ _⟩
              case round =>
                obtain ⟨t, ht, rfl, HLi, HGi⟩ := hrel
                have HWi := Lib.hid (HW4.out.grown HGi.out HW4.out.size (fun q hq => by simp at hq; omega))
                by_cases htk : t < k
                · have htk' : (t : Int) < (k : Int) := by omega
                  have c5 := C5.out t (by rw [HLn.out]; exact htk)
                  have c5' := (HWi.out.cell (p := ⟨b5, o5 + t, none⟩) (World.block_lt_of_cell? _ _ c5)).trans c5
                  have cB := cell_stay HC4.out HGi.out (fun e => by simp at e; omega)
                  have d0 := HLi.out.cell (j := t) (by rw [upd_length, ← HNw.out]; exact htk)
                  rw [upd_at (by rw [← HNw.out]; exact htk)] at d0
                  have fr := HLi.out.free t
                  have bg := (HLi.out.lt g1 rfl).2
                  have M1 := HLi.out.upd (j := t) (by rw [← HNw.out]; exact htk)
                  have HM1 := Lib.hid M1
                  have bd := HBd.out t htk
                  have wr1 : IntKind.i64.wrap ((runO rs n fs m).2.getD t 0 + (hold rs j).getD t 0) = f t := by rw [HFt.out]; exact IntWalk.i64_in _ (by omega)
                  generalize (runO rs n fs m).2.getD t 0 = x at d0 wr1
                  generalize (hold rs j).getD t 0 = h at c5' wr1
                  clear c5 M1 bd
                  go_wp2
                  go_roundw
                  case rel => exact ⟨t + 1, by omega, by go_num, HM1.out.1, grown_trans HGi.out HM1.out.2⟩
                  case measure => simp [intOf]; omega
                · have htk' : ¬ (t : Int) < (k : Int) := by omega
                  obtain rfl : t = k := by omega
                  have HOi := Lib.hid (HO4.out.stay HGi.out (by omega))
                  have HCi := Lib.hid (cell_stay HC4.out HGi.out (fun e => by simp at e; omega))
                  go_wp2
                  go_roundw
                  case rel =>
                    refine ⟨m + 1, by omega, by go_num, ?_, ?_, HCi.out, HWi.out, ?_⟩
                    · show Own _ _ _ (natI (runO rs n fs (m + 1)).1)
                      rw [run_some HNext.out, natI_snoc]
                      exact HOi.out
                    · show OwnG _ _ _ _ _ _ (runO rs n fs (m + 1)).2
                      rw [run_some HNext.out, ← HUk.out]
                      exact HLi.out
                    · have h1 := HS4.out
                      have h2 := HGi.out.size
                      show Bx + 1 ≤ _
                      omega
                  case measure => simp [intOf]; omega
            · have HIn := Lib.hid hq
              clear hq
              have hj1n : (j : Int) + 1 ≤ (n : Int) := by omega
              go_wp2_with fail
              refine (HCt.out _ (below_plus (Below.refl _ _) _ _)).mono ?_
              rintro e w' ⟨rfl, rfl⟩
              go_wp2_with fail
              all_goals
                try rw [← (show c = j + 1 from h)]
                have HC0 := Lib.hid h
                clear h
                apply Calls.mono
                · refine indexcanF2_any _ (some ⟨g1, 0, none⟩) _ _ k c1 Bx (rs.drop ((j + 1) * 2)) (runO rs n fs m).2 _ (by rw [List.length_drop, HZ.out]; have := HC0.out; omega) ?_ (fun i hi => by rw [need_drop]; exact (HRow.out _ (by have := HC0.out; omega)).2.1.trans HK.out.symm) (by omega) (HK.out.trans run_now.symm) hk1 (HL.out.plus _ _).ints.2 ((below_plus (Below.refl _ _) _ _).cell (p := ⟨Bx, 0, none⟩) (World.block_lt_of_cell? _ _ HC.out) |>.trans HC.out)
                  first
                    | exact ((HI.out.below HW.out).plus _ _).drop _
                    | exact .inl (List.drop_eq_nil_of_le (by rw [HZ.out]; have := HC0.out; omega))
                rintro e w5 ⟨r5, rfl, hr5, os5, d5, rfl⟩
                rcases hr5 with ⟨rfl, hno⟩ | ⟨i0, rfl, hi0, hen, hall⟩
                · have HN : Hid (NX rs n (runO rs n fs m).1 (runO rs n fs m).2 (-1)) := .inl ⟨rfl, fun i hi => by
                    by_cases h1 : i < j
                    · exact HAll.out i h1
                    · by_cases h2 : i = j
                      · subst h2; exact can_in HIn.out
                      · have := hno (i - (j + 1)) (by have := HC0.out; omega)
                        rw [need_drop, show j + 1 + (i - (j + 1)) = i by omega] at this
                        exact can_en this⟩
                  clear hno
                  go_wp2
                  go_roundw
                  case rel => first | exact ⟨_, _, rfl⟩ | exact ⟨-1, rfl, HN.out, _, _, rfl⟩
                  case measure =>
                    show msr n _ < msr n _
                    rw [msr_end, msr_at n (by omega)]
                    omega
                · have HN : Hid (NX rs n (runO rs n fs m).1 (runO rs n fs m).2 ((j : Int) + 1 + i0)) := .inr ⟨j + 1 + i0, by omega, by have := HC0.out; omega, by rw [need_drop] at hen; exact hen, fun i hi => by
                    by_cases h1 : i < j
                    · exact HAll.out i h1
                    · by_cases h2 : i = j
                      · subst h2; exact can_in HIn.out
                      · have := hall (i - (j + 1)) (by have := HC0.out; omega)
                        rw [need_drop, show j + 1 + (i - (j + 1)) = i by omega] at this
                        exact can_en this⟩
                  clear hen hall
                  first
                    | (exfalso; have := HC0.out; omega)
                    | (go_wp2
                       go_roundw
                       case rel => first | exact ⟨_, _, rfl⟩ | exact ⟨_, rfl, HN.out, _, _, rfl⟩ | exact ⟨_, by go_num, HN.out, _, _, rfl⟩
                       case measure =>
                         show msr n _ < msr n _
                         rw [msr_at n (by omega), msr_at n (by omega)]
                         omega)
      · have hlt' : ¬ (m : Int) < (n : Int) := by omega
        obtain rfl : m = n := by omega
        go_wp2
        go_ret
        rw [HR.out]
        refine ⟨ao, co, by rw [natI_length, HLen.out]; rfl, ?_, HW.out⟩
        rw [natI_length]
        have := HO.out.more (B' := w.heap.size) (by omega)
        rw [HLen.out] at this
        exact this

end Go.Proofs.Ytlahgikhndjfoaa
