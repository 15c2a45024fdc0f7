/-
  The contracts of the functions that draw claims and what is free. Conditions: those that each theorem states.
-/
import Derived.Test.YtlahgikhndjfoaaClD2
import Derived.Test.YtlahgikhndjfoaaClV2
namespace Go.Proofs.Ytlahgikhndjfoaa
open Go.RowKit

/-- A drawn list of claims: at most four, no row longer than four, and at most five numbers free. -/
def DrewClaims (w : World) (b : Nat) (e : Ending) (w' : World) : Prop :=
  ∃ (n c g : Nat) (rs : List (List Int)) (fa : Option Addr) (fc : Nat) (k : Nat) (fs : List Int), n ≤ 4 ∧ n ≤ c ∧ c ≤ maxLen ∧ k ≤ fc ∧ fc ≤ maxLen ∧ rs.length = n * 2 ∧ fs.length = k ∧ 1 ≤ k ∧ k ≤ 5 ∧ rowsMax rs 4 ∧
    e = .returned (.tuple #[.slice (some ⟨g, 0, none⟩) n c, .slice fa k fc]) ∧ Grid w' (some ⟨g, 0, none⟩) rs ∧ Ints w' fa fs ∧ ∃ q : Int, Below w.heap.size (w.setCell ⟨b, 1, none⟩ (.int .i64 q)) w'

theorem l20Row_any' (b : Nat) (a : Option Addr) (n c N : Nat) (p m kv : Int) (w : World) (hk : kv = (N : Int)) (hr : Rd w b a n c p) (hp : 0 ≤ p) (hp1 : p ≤ 900000) (hN : N ≤ 5) (hm : 0 ≤ m) (hm1 : m ≤ 1000) :
    Calls Try.prog 41 #[.pointer (some ⟨b, 0, none⟩), .int .i64 kv, .int .i64 m] w (DrewRow w b p N) := by
  subst hk
  exact l20Row_any b a n c N p m w hr hp hp1 hN hm hm1
theorem lens_snoc {rs : List (List Int)} {z1 z2 : List Int} {n N : Nat} (hl : rs.length = n * 2) (h : ∀ i, i < n * 2 → (rs.getD i []).length = N) (h1 : z1.length = N) (h2 : z2.length = N) : ∀ i, i < (n + 1) * 2 → ((rs ++ [z1, z2]).getD i []).length = N := by
  intro i hi
  by_cases k1 : i < n * 2
  · rw [List.getD_eq_getElem?_getD, List.getElem?_append_left (by omega), ← List.getD_eq_getElem?_getD]; exact h i k1
  · rw [List.getD_eq_getElem?_getD, List.getElem?_append_right (by omega), hl]
    by_cases k2 : i = n * 2
    · subst k2; simpa using h1
    · obtain rfl : i = n * 2 + 1 := by omega
      simpa using h2
theorem rowsMax_lens {rs : List (List Int)} {n N m : Nat} (hl : rs.length = n * 2) (h : ∀ i, i < n * 2 → (rs.getD i []).length = N) (hN : N ≤ m) : rowsMax rs m := by
  intro i
  by_cases hi : i < n * 2
  · rw [h i hi]; exact hN
  · rw [List.getD_eq_getElem?_getD, List.getElem?_eq_none (by omega)]; simp

set_option maxHeartbeats 4000000 in
theorem l20Claims_any (b : Nat) (a : Option Addr) (n c : Nat) (m : Int) (w : World) (hr : Rd w b a n c 0) (hm : 0 ≤ m) (hm1 : m ≤ 1000000) :
    Calls Try.prog 23 #[.pointer (some ⟨b, 0, none⟩), .int .i64 m] w (DrewClaims w b) := by
  have hlt := hr.lt
  have hle := Nat.le_of_lt hlt
  have h1 := hr.at_
  have HR := Lib.hid hr
  go_enter Try.func23, Try.ntmps23
  go_wp2_with (first | (go_at_call 40; apply Calls.mono; (focus (with_reducible apply pick_any (m := 3); (focus (repeat (first | with_reducible exact hr | (with_reducible apply Rd.base_at hs1 hB1; simp; done) | with_reducible apply Rd.plus | with_reducible apply Rd.drew | with_reducible apply Rd.drewN | with_reducible apply Rd.drw | with_reducible apply Rd.alloc | with_reducible apply Rd.set))); all_goals omega)); rintro e w1 ⟨k0, d, hk00, hk01, rfl, rfl⟩) | (go_at_call 40; apply Calls.mono; (focus (with_reducible apply pick_any (m := 5); (focus (repeat (first | with_reducible exact hr | (with_reducible apply Rd.base_at hs1 hB1; simp; done) | with_reducible apply Rd.plus | with_reducible apply Rd.drew | with_reducible apply Rd.drewN | with_reducible apply Rd.drw | with_reducible apply Rd.alloc | with_reducible apply Rd.set))); all_goals omega)); rintro e w1 ⟨k1, d, hk10, hk11, rfl, rfl⟩))
  obtain ⟨K, rfl⟩ := Int.eq_ofNat_of_zero_le hk10
  obtain ⟨N, hN⟩ : ∃ N : Nat, 1 + k0 = (N : Int) := ⟨(1 + k0).toNat, by omega⟩
  have HN := Lib.hid hN
  have hN1 : 1 ≤ N := by omega
  have hN3 : N ≤ 3 := by omega
  clear h1 hN hr
  go_loopw [7, 8] (fun v' kv wr => ∃ (k cnt : Nat) (us : List Value) (rs : List (List Int)) (q : Int), kv = .int .i64 k ∧ k + cnt = K ∧ 0 ≤ q ∧ q ≤ 2 + 6 * cnt ∧ Hid (CR wr w.heap.size v' cnt us rs) ∧ Hid (cnt = 0 → v' = .slice (some ⟨w.heap.size, 0, none⟩) 0 0) ∧ Hid (∀ i, i < cnt * 2 → (rs.getD i []).length = N) ∧ Hid (Below w.heap.size (w.setCell ⟨b, 1, none⟩ (.int .i64 q)) wr)) (fun _ kv _ => (intOf kv).toNat)
  case atStart =>
    refine ⟨K, 0, [], [], 2, rfl, by omega, by omega, by omega, ?_, fun _ => rfl, fun i hi => by omega, ?_⟩
    · show CR _ _ _ _ _ _
      have := CR.made (w.setCell ⟨b, 1, none⟩ (.int .i64 2)) w.heap.size (by simp)
      rw [World.size_setCell] at this
      exact this.drw _
    · show Below _ _ _
      exact bdrw ((Below.refl _ _).alloc (by simp) _) _
  case round =>
    obtain ⟨k, cnt, us, rs, q, rfl, hkc, hq0, hq1, HC, HN0, HL, HB⟩ := hrel
    have HBw := Lib.hid (show w.heap.size ≤ wr.heap.size by have := HB.out.size; simpa using this)
    by_cases hk : 0 < k
    · obtain ⟨k, rfl⟩ : ∃ k', k = k' + 1 := ⟨k - 1, by omega⟩
      have hk' : (0 : Int) < ((k + 1 : Nat) : Int) := by omega
      go_wp2_with fail
      refine (l20Row_any' b a n c N q 3 _ wr HN.out (HR.out.near' HB.out) (by omega) (by omega) (by omega) (by omega) (by omega)).mono ?_
      rintro e w1 ⟨z1, a1, c1, hl1, rfl, O1, B1⟩
      have HC1 := Lib.hid (HC.out.reader hlt B1)
      have HB1 := Lib.hid (below_on HB.out B1)
      have HS := Lib.hid (show wr.heap.size ≤ w1.heap.size by have := B1.size; simpa using this)
      have HO1 := Lib.hid O1
      clear O1 B1
      go_wp2_with fail
      refine (l20Row_any' b a n c N (q + N) 5 _ w1 HN.out (HR.out.near' HB1.out) (by omega) (by omega) (by omega) (by omega) (by omega)).mono ?_
      rintro e w2 ⟨z2, a2, c2, hl2, rfl, O2, B2⟩
      have HC2 := Lib.hid (HC1.out.reader hlt B2)
      have HB2 := Lib.hid (below_on HB1.out B2)
      have HS2 := Lib.hid (show w1.heap.size ≤ w2.heap.size by have := B2.size; simpa using this)
      have HO1' := Lib.hid (Own.reader HO1.out (show b < wr.heap.size by have := HBw.out; omega) B2)
      have HO2 := Lib.hid O2
      have HL2 := Lib.hid (lens_snoc HC.out.len HL.out hl1 hl2)
      clear O2 B2 hl1 hl2
      go_wp2_with (at_builtin; refine wpList_appC rfl _ _ rfl w.heap.size _ cnt us rs rfl (HC2.out.alloc _) w2.heap.size 0 wr.heap.size w1.heap.size a1 a2 N c1 N c2 z1 z2 ((HO1'.out.more HBw.out).alloc _) ((HO2.out.more (Nat.le_trans HBw.out HS.out)).alloc _) (fun i g hi hg => HC.out.lt hi hg) (fun g hg => HO1.out.lt g hg) (fun g hg => (HO2.out.lt g hg).1) HS.out rfl (cell_new' rfl rfl) (cell_new' rfl rfl) (by omega) (by have := HBw.out; have := HS.out; have := HS2.out; simp; omega) ?_; intro v1 w3 hown hgrow)
      have HO3 := Lib.hid hown
      have HG3 := Lib.hid hgrow
      clear hown hgrow
      go_wp2
      go_roundw
      case rel =>
        refine ⟨k, cnt + 1, _, _, q + N + N, by go_num, by omega, by omega, by omega, HO3.out, fun h => by omega, HL2.out, ?_⟩
        show Below _ _ _
        exact (HB2.out.alloc (by have := HBw.out; have := HS.out; have := HS2.out; omega) _).grown HG3.out (by have := HBw.out; have := HS.out; have := HS2.out; simp; omega) (fun g hg => (HC.out.row.lt g hg).1)
      case measure => simp [intOf]
    · obtain rfl : k = 0 := by omega
      have hk' : ¬ (0 : Int) < ((0 : Nat) : Int) := by omega
      have hc4 : cnt ≤ 4 := by omega
      go_wp2_with fail
      refine (l20Row_any' b a n c N q 4 _ wr HN.out (HR.out.near' HB.out) (by omega) (by omega) (by omega) (by omega) (by omega)).mono ?_
      rintro e w1 ⟨fs, fa, fc, hlf, rfl, O1, B1⟩
      have HC1 := Lib.hid (HC.out.reader hlt B1)
      have HB1 := Lib.hid (below_on HB.out B1)
      have HO1 := Lib.hid O1
      have hr := HR.out.near' HB1.out
      have HLf := Lib.hid hlf
      have hlt1 : b < w1.heap.size := by have := HBw.out; have := B1.size; simp at this; omega
      have hlew1 := Nat.le_of_lt hlt1
      have h1 := hr.at_
      obtain ⟨la, lc, hv, hlc1, hlc2, _⟩ := HC1.out.ownC.form
      have HSw := Lib.hid (show wr.heap.size ≤ w1.heap.size by have := B1.size; simpa using this)
      clear O1 B1 hlf
      have HM := Lib.hid (rowsMax_lens HC.out.len HL.out (show N ≤ 4 by omega))
      have hfc := HO1.out.form
      obtain ⟨fa', fc', hfv, hfc1, hfc2, _⟩ := hfc
      simp only [Value.slice.injEq] at hfv
      obtain ⟨-, -, rfl⟩ := hfv
      rw [HLf.out] at hfc1
      subst hv
      by_cases hc0 : cnt = 0
      · subst hc0
        have e0 := HN0.out rfl
        simp only [Value.slice.injEq, true_and] at e0
        obtain ⟨rfl, rfl⟩ := e0
        go_wp2
        go_ret2
        exact ⟨0, 0, _, rs, fa, fc, N, fs, by omega, hlc1, hlc2, hfc1, hfc2, HC.out.len, HLf.out, hN1, by omega, HM.out, rfl, HC1.out.ownC.grid.2, HO1.out.ints.2, _, HB1.out⟩
      · have hcp : (0 : Int) < (cnt : Int) := by omega
        obtain ⟨gl, hla, hgl⟩ : ∃ gl, la = some ⟨gl, 0, none⟩ ∧ w.heap.size ≤ gl := by
          rcases HC1.out.row.2 with ⟨e, h0⟩ | ⟨g, cap, cur, e, hbl, _⟩
          · omega
          · simp only [Value.slice.injEq] at e
            exact ⟨g, e.1, hbl⟩
        subst hla
        go_wp2_with (first | (go_at_call 42; apply Calls.mono; (focus (apply odd_any; (focus (repeat (first | with_reducible exact hr | (with_reducible apply Rd.base_at hs1 hB1; simp; done) | with_reducible apply Rd.plus | with_reducible apply Rd.drew | with_reducible apply Rd.drewN | with_reducible apply Rd.drw | with_reducible apply Rd.alloc | with_reducible apply Rd.set))); all_goals omega)); rintro e w1 ⟨t, p', d, hp0, hp1, rfl, rfl⟩; cases t))
        · go_ret2
          exact ⟨cnt, lc, _, rs, fa, fc, N, fs, by omega, hlc1, hlc2, hfc1, hfc2, HC.out.len, HLf.out, hN1, by omega, HM.out, rfl, ((HC1.out.setb hlt _).drw _).ownC.grid.2, ((HO1.out.setb (show b < wr.heap.size by have := HBw.out; omega) _).drw _).ints.2, _, bdrw (below_reset HB1.out) _⟩
        · have hbw : b < wr.heap.size := by have := HBw.out; omega
          have HC2 := Lib.hid ((HC1.out.setb hlt (.int .i64 p') (i := 1)).drw d)
          have HO2 := Lib.hid ((HO1.out.setb hbw (.int .i64 p') (i := 1)).drw d)
          have HB2 := Lib.hid (bdrw (below_reset (q := .int .i64 p') HB1.out) d)
          have hr2 := Lib.hid ((hr.set p').drw d)
          have hsz2 : wr.heap.size ≤ (drw (w1.setCell ⟨b, 1, none⟩ (.int .i64 p')) d).heap.size := by have := HSw.out; simpa [drw_heap] using this
          clear hr h1 hlt1 hlew1
          generalize drw (w1.setCell ⟨b, 1, none⟩ (.int .i64 p')) d = W2 at HC2 HO2 HB2 hr2 hsz2 ⊢
          refine (pick3_any b a n c p' W2 hr2.out (by omega) (by omega)).mono ?_
          rintro e w2 ⟨x, d2, hx, rfl, rfl⟩
          have HC3 := Lib.hid ((HC2.out.setb hlt (.int .i64 (p' + 1)) (i := 1)).drw d2)
          have HO3 := Lib.hid ((HO2.out.setb hbw (.int .i64 (p' + 1)) (i := 1)).drw d2)
          have HB3 := Lib.hid (bdrw (below_reset (q := .int .i64 (p' + 1)) HB2.out) d2)
          have HR3 := Lib.hid ((hr2.out.set (p' + 1)).drw d2)
          have hsz3 : wr.heap.size ≤ (drw (W2.setCell ⟨b, 1, none⟩ (.int .i64 (p' + 1))) d2).heap.size := by simpa [drw_heap] using hsz2
          clear hr2 HC2 HO2 HB2 hsz2 HC1 HO1 HB1
          generalize drw (W2.setCell ⟨b, 1, none⟩ (.int .i64 (p' + 1))) d2 = W3 at HC3 HO3 HB3 HR3 hsz3 ⊢
          have hw3 : w.heap.size ≤ W3.heap.size := by have := HBw.out; omega
          have hul : us.length = cnt * 2 := HC3.out.row.1
          rcases hx with rfl | rfl | rfl
          · have t0 := HC3.out.row.cellAt 0 (by omega)
            rw [List.getElem?_eq_getElem (by omega)] at t0
            have ho0 := HC3.out.rows 0 (by omega)
            have hl0 := HL.out 0 (by omega)
            rw [List.getD_eq_getElem?_getD, List.getElem?_eq_getElem (by omega)] at ho0
            rcases ho0.2 with ⟨e, h0⟩ | ⟨g1, cap1, cur1, e, hb1, hg1, hnc1, hmc1, hs1, ht1⟩
            · omega
            simp only [Option.getD_some] at e ho0
            rw [e] at t0 ho0
            have c0 := ho0.ints.2
            have f0 : W3.frozen? ⟨g1, 0, none⟩ = false := World.ownsRow.frozenAt ho0 0
            rcases c0 with h0 | ⟨_, _, e0, c0⟩
            · rw [h0] at hl0; simp at hl0; omega
            simp only [Option.some.injEq, Addr.mk.injEq, and_true] at e0
            obtain ⟨rfl, rfl⟩ := e0
            have c0 := c0 0 (by omega)
            rw [hl0] at t0
            have hgb1 : g1 ≠ b := by omega
            have hgb : gl ≠ b := by omega
            have hlg := World.block_lt_of_cell? _ _ t0
            have hlg1 := World.block_lt_of_cell? _ _ c0
            simp only at hlg hlg1
            have hl3 : b < W3.heap.size := by omega
            have hle3 := Nat.le_of_lt hl3
            have h1 := HR3.out.at_
            have HG1 := Lib.hid hg1
            have hN0 : (0 : Int) < (N : Int) := by omega
            have HGL := Lib.hid (HC.out.lt (i := 0) (g := g1) (by omega) (by rw [List.getD_eq_getElem?_getD, List.getElem?_eq_getElem (by omega), Option.getD_some, e]; rfl))
            clear hg1 hs1 ht1 ho0 e hl0
            have hr := HR3.out
            go_wp2
            go_region_with (first | (go_at_call 40; apply Calls.mono; (focus (with_reducible apply pick_any (m := 2); (focus (repeat (first | with_reducible exact hr | (with_reducible apply Rd.base_at hs1 hB1; simp; done) | with_reducible apply Rd.plus | with_reducible apply Rd.drew | with_reducible apply Rd.drewN | with_reducible apply Rd.drw | with_reducible apply Rd.alloc | with_reducible apply Rd.set))); all_goals omega)); rintro e w1 ⟨x, d, hx0, hx1, rfl, rfl⟩; obtain ⟨y, hy0, hy1, hy⟩ := sel_list [-1, 101] (-1) 101 (by simp) x hx0 hx1; simp only [List.map] at hy))
            all_goals
              go_wp2
              go_ret2
              obtain ⟨rs', hlen', hO'⟩ := CR.poke (i := 0) (g := g1) (HC3.out.setb hlt (.int .i64 (p' + 1 + 1)) (i := 1)) ((Below.heap_setCell W3 ⟨b, 1, none⟩ _ g1 hgb1).trans HG1.out) y
              have hI := (HO3.out.setb hbw (.int .i64 (p' + 1 + 1)) (i := 1)).setb (i := 0) HGL.out (.int .i64 y)
              have hm' : rowsMax rs' 4 := fun i => by rw [hlen']; exact HM.out i
              have hBB := (below_reset (q := .int .i64 (p' + 1 + 1)) HB3.out).setCell (p := ⟨g1, 0, none⟩) hb1 (.int .i64 y)
              exact ⟨cnt, lc, gl, rs', fa, fc, N, fs, by omega, hlc1, hlc2, hfc1, hfc2, hO'.len, HLf.out, hN1, by omega, hm', rfl, (hO'.below (below_drw (below_alloc (Below.refl _ _) _) _)).grid.2, ((hI.alloc _).drw _).ints.2, _, bdrw (hBB.alloc (by simp; omega) _) _⟩
          · have hrow1 := HC3.out.rows 1 (by omega)
            have t1 := HC3.out.row.cellAt 1 (by omega)
            have t0 := HC3.out.row.cellAt 0 (by omega)
            rw [List.getElem?_eq_getElem (by omega)] at t1 t0
            have hu1 : us.getD 1 undef = us[1] := by rw [List.getD_eq_getElem?_getD, List.getElem?_eq_getElem (by omega)]; rfl
            have hl1 := HL.out 1 (by omega)
            obtain ⟨x1, y1, e1, hy1, hy2, _⟩ := hrow1.form
            rw [hl1] at e1
            have f1 : W3.frozen? ⟨gl, 1, none⟩ = false := World.ownsRow.frozenAt HC3.out.row 1
            rw [← hu1, e1] at t1
            have hlg := World.block_lt_of_cell? _ _ t1
            simp only at hlg
            have hgb : gl ≠ b := by omega
            rw [e1] at hrow1
            have HRow := Lib.hid hrow1
            have HE1 := Lib.hid e1
            have HT0 := Lib.hid t0
            have HF1 := Lib.hid f1
            clear e1 hu1 hrow1 t0 f1 hl1
            go_wp2_with (
              at_builtin
              refine wpList_app rfl _ _ rfl w.heap.size _ (rs.getD 1 []) rfl ?_ _ 0 rfl ?_ ?_ ?_ ?_
              case refine_1 => exact (HRow.out.alloc _)
              case refine_2 => exact cell_new' rfl rfl
              case refine_3 => have := HM.out 1; omega
              case refine_4 => simp; omega
              intro v1 w4 hown hgrow
              obtain ⟨x5, y5, e5, hy5, hy6, _⟩ := hown.form
              generalize (rs.getD 1 [] ++ [0]).length = L5 at e5 hy5
              have hgrow2 : (W3.alloc (.cells #[.int .i64 0] 3)).grownBy w4 (us.getD 1 undef).ownBlock := by rw [HE1.out]; exact hgrow
              have hC4 := CR.more (HC3.out.alloc (.cells #[.int .i64 0] 3)) (by omega) hown hgrow2
              have hrow4 := World.ownsRow.kept (HC3.out.alloc (.cells #[.int .i64 0] 3)).row hgrow2 (types_part (by decide) (HC3.out.alloc (.cells #[.int .i64 0] 3)).row ((HC3.out.alloc (.cells #[.int .i64 0] 3)).rows 1 (by omega)))
              have q1 := World.ownsRow.cellAt hrow4 1 (by omega)
              rw [List.getElem?_eq_getElem (by omega)] at q1
              have f1 : w4.frozen? ⟨gl, 1, none⟩ = false := World.ownsRow.frozenAt hrow4 1
              have hfree : Own w4 wr.heap.size (.slice fa N fc) fs := by
                refine World.ownsRow.kept (HO3.out.alloc (.cells #[.int .i64 0] 3)) hgrow2 ?_
                cases hk : (Value.slice fa N fc).ownBlock with
                | none => exact .inl rfl
                | some g =>
                  right
                  intro e
                  have a1 := (HO3.out.lt g hk).1
                  have a2 := HC.out.lt (i := 1) (by omega) e.symm
                  omega
              have HFree := Lib.hid (hfree.beside hrow4 hC4.2)
              have HC4 := Lib.hid hC4.1
              have HB4 := Lib.hid (((HB3.out.alloc (by omega) (.cells #[.int .i64 0] 3)).grown hgrow (by simp; omega) (fun g hg => (HRow.out.lt g hg).1)).setCell (p := ⟨gl, 1, none⟩) hgl v1)
              have HL5 : Hid (rowsMax (rs.set 1 (rs.getD 1 [] ++ [0])) 4) := fun i => by
                by_cases hi : i = 1
                · subst hi
                  rw [List.getD_eq_getElem?_getD, List.getElem?_set_self (by rw [HC.out.len]; omega)]
                  have := HL.out 1 (by omega)
                  simp only [Option.getD_some, List.length_append, List.length_singleton]
                  omega
                · rw [List.getD_eq_getElem?_getD, List.getElem?_set_ne (by omega), ← List.getD_eq_getElem?_getD]
                  exact HM.out i
              clear hfree hC4 hrow4 hgrow2 hgrow hown
              subst e5)
            go_ret2
            exact ⟨cnt, lc, _, _, fa, fc, N, fs, by omega, hlc1, hlc2, hfc1, hfc2, by simpa using HC.out.len, HLf.out, hN1, by omega, HL5.out, rfl, HC4.out.grid.2, HFree.out.ints.2, _, HB4.out⟩
          · have hI : Ints (W3.alloc (.cells #[Value.int .i64 0, Value.int .i64 0, Value.int .i64 0, Value.int .i64 0, Value.int .i64 0] 3)) (some ⟨W3.heap.size, 0, none⟩) [0, 0, 0, 0, 0] := by
              refine .inr ⟨_, 0, rfl, fun i hi => ?_⟩
              refine (cell_new' rfl (?_ : _ = some (Value.int .i64 (([0, 0, 0, 0, 0] : List Int).getD i 0))))
              match i, hi with
              | 0, _ => rfl
              | 1, _ => rfl
              | 2, _ => rfl
              | 3, _ => rfl
              | 4, _ => rfl
            have HI := Lib.hid hI
            go_wp2
            go_ret2
            exact ⟨cnt, lc, _, rs, _, 5, 5, [0, 0, 0, 0, 0], by omega, hlc1, hlc2, by omega, by unfold maxLen; omega, HC.out.len, rfl, by omega, by omega, HM.out, rfl, (HC3.out.alloc _).ownC.grid.2, HI.out, _, HB3.out.alloc (by omega) _⟩

end Go.Proofs.Ytlahgikhndjfoaa
