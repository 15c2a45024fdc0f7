/-
  The walk of the law on orders of finishing robots. No condition beyond those that each theorem states.
-/
import Derived.Test.YtlahgikhndjfoaaFo4
namespace Go.Proofs.Ytlahgikhndjfoaa
open Go.RowKit

/-- The numbers that a search holds. -/
structure NS (wr W0 : World) (B : Nat) (gn cn gd n k : Nat) (out : List Nat) (now : List Int) : Prop where
  now : OwnG 3 1 wr B (.slice (some ⟨gn, 0, none⟩) k cn) k now
  done : wr.ownsRow B 4 1 (.slice (some ⟨gd, 0, none⟩) n n) n (bits n out)
  bel : Below B W0 wr

set_option maxRecDepth 20000 in
set_option maxHeartbeats 4000000 in
theorem lawFinishOrder_any (a : Option Addr) (n c : Nat) (w : World) (hb : Bytes w w.heap.size a n) (hnc : n ≤ c) (hcm : c ≤ maxLen) :
    Calls Try.prog 4 #[.slice a n c] w fun e w' => e = .returned (.bool true) ∧ Up w w' := by
  have hmm : c ≤ 9223372036854775807 := by unfold maxLen at hcm; omega
  by_cases hn : n ≤ 1048576
  · go_enter Try.func4, Try.ntmps4
    go_wp2_with (go_at_call 13; refine (drawFinishOrder_any _ _ _ _ hb hnc hcm).mono ?_; rintro e w1 ⟨m, c1, g, rs, fa, fc, k, fs, p1, p2, p3, p4, p5, p6, p7, p8, p9, p10, rfl, hG, hI, hW⟩)
    obtain ⟨g2, off2, rfl, hI2⟩ : ∃ g2 off2, fa = some ⟨g2, off2, none⟩ ∧ Ints w1 (some ⟨g2, off2, none⟩) fs := by
      rcases hI with h0 | ⟨b, o, e, h⟩
      · rw [h0] at p7; simp at p7; omega
      · exact ⟨b, o, e, e ▸ .inr ⟨b, o, e, h⟩⟩
    have HW := Lib.hid hW
    have HG := Lib.hid hG
    have HI := Lib.hid hI2
    have HZ := Lib.hid p6
    have HF := Lib.hid p7
    have HR : Hid (rowsMax rs 1000000000) := fun i => by have := p10 i; omega
    have F1 := Lib.hid (fun W hG hI => finish_any (some ⟨g, 0, none⟩) m c1 g2 off2 k fc rs fs W p6 hG HR.out (by omega) p2 p3 p7.symm hI p8 (by omega))
    have F2 := Lib.hid (fun W hG hI => sFinish_any (some ⟨g, 0, none⟩) m c1 g2 off2 k fc rs fs W p6 hG HR.out (by omega) p7.symm hI p8 (by omega))
    have hLm : (ordF m rs fs).length ≤ m := by
      unfold ordF
      split
      · rw [natI_length]; exact run_le
      · simp
    obtain ⟨ib, hib, hib0, hib1, hib2⟩ := info_parts info_bool
    unfold maxLen at p3 p5
    clear hb hW hG hI hI2 p6 p7 p10
    go_wp2_with fail
    refine (F1.out _ HG.out HI.out).mono ?_
    rintro e w2 ⟨ao, co, rfl, hO, hB⟩
    obtain ⟨L, hL⟩ : ∃ L, L = (ordF m rs fs).length := ⟨_, rfl⟩
    rw [← hL] at hO hLm ⊢
    have HL := Lib.hid hL
    have HO := Lib.hid hO.ints.2
    have HG := Lib.hid (HG.out.below hB)
    have HI := Lib.hid (HI.out.below hB)
    have HW := Lib.hid (HW.out.trans (hB.mono HW.out.size))
    clear hB hO hL
    go_wp2_with fail
    refine (F2.out _ HG.out HI.out).mono ?_
    rintro e w3 ⟨ao2, co2, rfl, hO, hB⟩
    rw [← HL.out] at hO ⊢
    have HO2 := Lib.hid hO.ints.2
    have HO := Lib.hid (HO.out.below hB)
    have HG := Lib.hid (HG.out.below hB)
    have HI := Lib.hid (HI.out.below hB)
    have HW := Lib.hid (HW.out.trans (hB.mono HW.out.size))
    clear hB hO F1 F2
    go_wp2_with fail
    refine (sameInts_any ao ao2 co co2 L (ordF m rs fs) w3 HO.out HO2.out HL.out (by omega)).mono ?_
    rintro e w4 ⟨rfl, dd, rfl⟩
    have HO := Lib.hid (HO.out.drw dd)
    have HG : Hid (Grid (drw w3 dd) (some ⟨g, 0, none⟩) rs) := HG.out.below (below_drw (Below.refl _ _) _)
    have HI := Lib.hid (HI.out.drw dd)
    have HW := Lib.hid (bdrw HW.out dd)
    clear HO2
    generalize drw w3 dd = W0 at HO HG HI HW ⊢
    have CV := Lib.hid (sValid_any (some ⟨g, 0, none⟩) (some ⟨g2, off2, none⟩) m c1 k fc rs fs W0 HZ.out HG.out HR.out (by omega) HF.out.symm HI.out (by omega))
    cases hC : claimsB m rs fs <;> rw [hC] at CV
    · obtain rfl : L = 0 := by rw [HL.out]; unfold ordF; rw [hC]; rfl
      clear hC
      go_wp2_with fail
      refine CV.out.mono ?_
      rintro e w5 ⟨rfl, rfl⟩
      go_wp2_with ((go_at_call 11; refine (alive_any _).mono ?_; rintro e w' ⟨rfl, rfl⟩))
      go_ret
      exact ⟨rfl, up_of_below HW.out⟩
    · obtain ⟨hm6, hk4, hsm, hrow⟩ := claims_t hC
      have HVal := Lib.hid hC
      have HRow := Lib.hid hrow
      have hOr : ordF m rs fs = natI (orderO rs m fs) := by unfold ordF; rw [if_pos hC]
      rw [hOr] at HO HL
      have HLo : Hid (L = (orderO rs m fs).length) := by show L = _; rw [HL.out, natI_length]
      clear hC hsm hrow hOr HL
      go_wp2_with fail
      refine CV.out.mono ?_
      rintro e w5 ⟨rfl, rfl⟩
      clear CV
      go_wp2_with (first
        | (at_builtin
           refine wpList_appI rfl _ _ rfl W0.heap.size _ [] rfl (Own.made W0 W0.heap.size (Nat.le_refl _)) g2 off2 k fc fs rfl (HI.out.below ((Below.refl _ _).alloc (Nat.le_refl _) _)) HF.out (by simp; omega) (by simp) ?_
           intro v1 w2 hown hgrow
           rw [List.nil_append] at hown
           have hgr : Below W0.heap.size W0 w2 := ((Below.refl _ _).alloc (Nat.le_refl _) _).grown hgrow (by simp) (fun g hg => ((Own.made W0 W0.heap.size (Nat.le_refl _)).lt g hg).1)
           obtain ⟨gn, cn, rfl, hgn1, hgn2⟩ : ∃ gn cn, v1 = .slice (some ⟨gn, 0, none⟩) k cn ∧ W0.heap.size ≤ gn ∧ gn < w2.heap.size := by
             rcases hown.2 with ⟨_, h0⟩ | ⟨g', cap, cur, e, hb, hg, _⟩
             · have := HF.out; omega
             · exact ⟨g', cap, by rw [e, HF.out], hb, (Array.getElem?_eq_some_iff.1 hg).1⟩
           have HN2 : Hid (OwnG 3 1 w2 W0.heap.size (.slice (some ⟨gn, 0, none⟩) k cn) k fs) := by
             have h1 := hown
             unfold Own at h1
             rw [HF.out] at h1
             exact h1
           have HB2 := Lib.hid hgr
           clear hown hgrow hgr)
        | (at_make
           refine wpList_make_full _ rfl _ _ 32 rfl W0.heap.size 4 ib _ 1 Try.underlying32 hib hib0 hib1 .i64 .i64 m m m rfl rfl rfl rfl (by rw [hib2]; omega) (by unfold maxLen; omega) HB2.out.size ?_
           intro w3 hown3 hgrow3))
      have hB3 : Below w2.heap.size w2 w3 := (Below.refl _ _).grown hgrow3 (Nat.le_refl _) (fun g hg => by cases hg)
      obtain ⟨gd, hgd⟩ : ∃ gd, gd = w2.heap.size := ⟨_, rfl⟩
      rw [← hgd] at hown3 ⊢
      have HF0 : Hid (NS w3 W0 W0.heap.size gn cn gd m k (runO rs m fs 0).1 (runO rs m fs 0).2) :=
        ⟨HN2.out.below hB3, by rw [bits_nil] at hown3; exact hown3, HB2.out.trans (hB3.mono HB2.out.size)⟩
      have hgdn : gn < gd := by omega
      clear hown3 hgrow3 hB3 HN2 HB2 hgd
      go_loopw [8] (fun kv wr => ∃ t : Nat, t ≤ L ∧ kv = .int .i64 t ∧ Hid (NS wr W0 W0.heap.size gn cn gd m k (runO rs m fs t).1 (runO rs m fs t).2)) (fun kv _ => L - (intOf kv).toNat)
      case atStart => exact ⟨0, Nat.zero_le _, rfl, HF0⟩
      case round =>
        obtain ⟨t, ht, rfl, HS⟩ := hrel
        by_cases htl : t < L
        · have htl' : (t : Int) < (L : Int) := by omega
          obtain ⟨hi, hnx, _⟩ := order_at (rs := rs) (N := m) (fs := fs) (m := t) (by rw [← HLo.out]; exact htl)
          rcases (HO.out.below HS.out.bel) with h0 | ⟨b6, o6, rfl, hc6⟩
          · exfalso; have := natI_length (orderO rs m fs); rw [h0] at this; simp at this; omega
          have c6 := hc6 t (by rw [natI_length]; exact hi)
          rw [natI_getD hi] at c6
          generalize (orderO rs m fs)[t] = j at hnx c6
          obtain ⟨hjm, hjo, hen⟩ := next_lt hnx
          have HNext := Lib.hid hnx
          clear hc6 hnx
          have hj0 : ¬ ((j : Int) < 0) := by omega
          have hjm1 : (j : Int) < (m : Int) := by omega
          have hjm2 : ¬ ((m : Int) ≤ (j : Int)) := by omega
          have b0 := (World.ownsRow.cellAt HS.out.done j (by omega)).trans (bits_at hjm)
          rw [List.contains_eq_mem, decide_eq_false hjo] at b0
          have fr0 := World.ownsRow.frozenAt HS.out.done j
          have hgdl := World.ownsRow.lt HS.out.done gd rfl
          obtain ⟨blk, off', x1, cx1, x2, cx2, he, hbk, d1, d2, _, _, r1, _, _, r2⟩ := HG.out.claim HZ.out hjm
          simp only [Option.some.injEq, Addr.mk.injEq, and_true] at he
          obtain ⟨rfl, rfl⟩ := he
          have hlh : (hold rs j).length = k := (HRow.out j hjm).1.1.trans HF.out
          have hln : (need rs j).length = k := (HRow.out j hjm).2.1.trans HF.out
          rw [hlh, Nat.zero_add] at d1
          rw [hln, Nat.zero_add] at d2
          have hne : ∀ {zs : List Int} {a : Option Addr} {W : World}, zs.length = k → Ints W a zs → ∃ b o, a = some ⟨b, o, none⟩ ∧ ∀ i, i < zs.length → W.cell? ⟨b, o + i, none⟩ = some (.int .i64 (zs.getD i 0)) := fun hl hi => by
            rcases hi with h0 | h1
            · rw [h0] at hl; simp at hl; omega
            · exact h1
          obtain ⟨b5, o5, rfl, hc5⟩ := hne hlh r1
          obtain ⟨b7, o7, rfl, hc7⟩ := hne hln r2
          have C5 := Lib.hid hc5
          have C7 := Lib.hid hc7
          have D1 := Lib.hid d1
          have D2 := Lib.hid d2
          have HLh := Lib.hid hlh
          have HLn := Lib.hid hln
          obtain ⟨f, hf⟩ : ∃ f : Nat → Int, f = fun t' => (runO rs m fs t).2.getD t' 0 + (hold rs j).getD t' 0 := ⟨_, rfl⟩
          have HFt : Hid (∀ u, f u = (runO rs m fs t).2.getD u 0 + (hold rs j).getD u 0) := fun u => by rw [hf]
          have HNw : Hid (k = (runO rs m fs t).2.length) := HF.out.symm.trans run_now.symm
          have HUk : Hid (upd f (runO rs m fs t).2 k = addL (runO rs m fs t).2 (hold rs j)) := by
            show upd f _ _ = _
            rw [hf, ← upd_add, ← HNw.out]
          have HBd : Hid (∀ u, u < k → ((0 ≤ (runO rs m fs t).2.getD u 0 ∧ (runO rs m fs t).2.getD u 0 ≤ 100 + 100 * (t : Int)) ∧ 0 ≤ (hold rs j).getD u 0 ∧ (hold rs j).getD u 0 ≤ 100) ∧ (need rs j).getD u 0 ≤ (runO rs m fs t).2.getD u 0) := fun u hu => by
            have h1 := allB_t.1 hen u (by rw [← HNw.out]; exact hu)
            rw [← HF.out] at hu
            exact ⟨⟨now_bound HVal.out hu t, hold_small HVal.out hjm hu⟩, by simpa using h1⟩
          have M := World.ownsRow.stored HS.out.done j (.bool true)
          rw [bits_set] at M
          have N6 := Lib.hid (show OwnG 3 1 (wr.setCell ⟨gd, j, none⟩ (.bool true)) W0.heap.size (.slice (some ⟨gn, 0, none⟩) k cn) k (runO rs m fs t).2 from row_kept HS.out.now HS.out.done M.2 (by decide))
          have D6 := Lib.hid M.1
          have B6 := Lib.hid (HS.out.bel.setCell (p := ⟨gd, j, none⟩) hgdl.1 (.bool true))
          clear hc5 hc7 d1 d2 hlh hln r1 r2 hne hf M hen hjo
          go_wp2
          go_loopw [10] (fun uv wx => ∃ u : Nat, u ≤ k ∧ uv = .int .i64 u ∧ Hid (OwnG 3 1 wx W0.heap.size (.slice (some ⟨gn, 0, none⟩) k cn) k (upd f (runO rs m fs t).2 u)) ∧ Hid ((wr.setCell ⟨gd, j, none⟩ (.bool true)).grownBy wx (some gn))) (fun uv _ => k - (intOf uv).toNat)
          case atStart => exact ⟨0, Nat.zero_le _, rfl, by show OwnG _ _ _ _ _ _ _; rw [upd_zero]; exact N6.out, World.grownBy.refl _ _⟩
          case round =>
            obtain ⟨u, hu, rfl, HLi, HGi⟩ := hrel
            have hgnw := (N6.out.lt gn rfl).1
            have HWi := Lib.hid (B6.out.grown HGi.out B6.out.size (fun q hq => by simp at hq; omega))
            by_cases huk : u < k
            · have huk' : (u : Int) < (k : Int) := by omega
              have c5 := C5.out u (by rw [HLh.out]; exact huk)
              have c5' := (HWi.out.cell (p := ⟨b5, o5 + u, none⟩) (World.block_lt_of_cell? _ _ c5)).trans c5
              have c7 := C7.out u (by rw [HLn.out]; exact huk)
              have c7' := (HWi.out.cell (p := ⟨b7, o7 + u, none⟩) (World.block_lt_of_cell? _ _ c7)).trans c7
              have ex1 := (HWi.out.cell (p := ⟨g, j * 2, none⟩) hbk).trans D1.out
              have ex2 := (HWi.out.cell (p := ⟨g, j * 2 + 1, none⟩) hbk).trans D2.out
              have d0 := HLi.out.cell (j := u) (by rw [upd_length, ← HNw.out]; exact huk)
              rw [upd_at (by rw [← HNw.out]; exact huk)] at d0
              have fr := HLi.out.free u
              have bg := (HLi.out.lt gn rfl).2
              have M1 := HLi.out.upd (j := u) (by rw [← HNw.out]; exact huk)
              have HM1 := Lib.hid M1
              have bd := HBd.out u huk
              have wr1 : IntKind.i64.wrap ((runO rs m fs t).2.getD u 0 + (hold rs j).getD u 0) = f u := by rw [HFt.out]; exact IntWalk.i64_in _ (by omega)
              have hgt : decide ((runO rs m fs t).2.getD u 0 < (need rs j).getD u 0) = false := decide_eq_false (by omega)
              generalize (runO rs m fs t).2.getD u 0 = x at d0 wr1 hgt
              generalize (hold rs j).getD u 0 = h at c5' wr1
              generalize (need rs j).getD u 0 = y at c7' hgt
              clear c5 c7 M1 bd b0 fr0 c6 hgdl
              go_wp2
              go_region
              go_wp2
              go_region
              go_wp2
              go_roundw
              case rel => exact ⟨u + 1, by omega, by go_num, HM1.out.1, grown_trans HGi.out (grown_drew (grown_drew HM1.out.2))⟩
              case measure => simp [intOf]; omega
            · have huk' : ¬ (u : Int) < (k : Int) := by omega
              obtain rfl : u = k := by omega
              have HF2 : Hid (NS wr W0 W0.heap.size gn cn gd m u (runO rs m fs (t + 1)).1 (runO rs m fs (t + 1)).2) := by
                refine ⟨?_, ?_, HWi.out⟩
                · rw [run_some HNext.out, ← HUk.out]
                  exact HLi.out
                · rw [run_some HNext.out]
                  exact row_apart D6.out HGi.out (fun q hq e => by simp only [Value.ownBlock, Option.some.injEq] at hq e; omega)
              clear b0 fr0 c6 hgdl
              go_wp2
              go_roundw
              case rel => exact ⟨t + 1, by omega, by go_num, HF2.out⟩
              case measure => simp [intOf]; omega
        · have htl' : ¬ (t : Int) < (L : Int) := by omega
          obtain rfl : t = L := by omega
          have HEnd : Hid (∀ i, i < m → canB rs (runO rs m fs t).1 (runO rs m fs t).2 i = false) := by
            have h := (order_run_end (rs := rs) (N := m) (fs := fs)).2
            rw [← HLo.out] at h
            exact firstB_none.1 h
          have HNw : Hid (k = (runO rs m fs t).2.length) := HF.out.symm.trans run_now.symm
          clear HO HLo
          generalize (runO rs m fs t).1 = out at HS HEnd
          generalize (runO rs m fs t).2 = now at HS HEnd HNw
          go_wp2
          go_loopw [11] (fun iv wq => ∃ i : Nat, i ≤ m ∧ iv = .int .i64 i ∧ ∃ d, wq = drw wr d) (fun iv _ => m - (intOf iv).toNat)
          case atStart => exact ⟨0, Nat.zero_le _, rfl, _, drw_id.symm⟩
          case round =>
            obtain ⟨i, hi, rfl, d, rfl⟩ := hrel
            by_cases him : i < m
            · have him' : (i : Int) < (m : Int) := by omega
              have b0 := (World.ownsRow.cellAt HS.out.done i (by omega)).trans (bits_at him)
              obtain ⟨blk, off', x1, cx1, x2, cx2, he, hbk, d1, d2, _, _, r1, _, _, r2⟩ := HG.out.claim HZ.out him
              simp only [Option.some.injEq, Addr.mk.injEq, and_true] at he
              obtain ⟨rfl, rfl⟩ := he
              have hln : (need rs i).length = k := (HRow.out i him).2.1.trans HF.out
              rw [hln, Nat.zero_add] at d2
              obtain ⟨b7, o7, rfl, hc7⟩ : ∃ b o, x2 = some ⟨b, o, none⟩ ∧ ∀ u, u < (need rs i).length → W0.cell? ⟨b, o + u, none⟩ = some (.int .i64 ((need rs i).getD u 0)) := by
                rcases r2 with h0 | h1
                · rw [h0] at hln; simp at hln; omega
                · exact h1
              have C7 := Lib.hid hc7
              have D2 := Lib.hid d2
              have HLn := Lib.hid hln
              have HE : Hid ((out.contains i || !allB (fun j => decide ((need rs i).getD j 0 ≤ now.getD j 0)) k) = true) := by
                have h := HEnd.out i him
                unfold canB enB at h
                rw [← HNw.out] at h
                show _ = true
                revert h
                cases out.contains i <;> cases allB (fun j => decide ((need rs i).getD j 0 ≤ now.getD j 0)) k <;> simp
              have ex2 := (HS.out.bel.cell (p := ⟨g, i * 2 + 1, none⟩) hbk).trans D2.out
              have hgn2 := HS.out.now
              have HN := Lib.hid hgn2
              clear hc7 d1 d2 r1 r2 hln hgn2
              generalize out.contains i = cb at b0 HE
              go_wp2
              go_loopw [12, 13] (fun sv uv wq => ∃ u : Nat, u ≤ k ∧ uv = .int .i64 u ∧ sv = .bool (cb || !allB (fun j => decide ((need rs i).getD j 0 ≤ now.getD j 0)) u) ∧ ∃ d, wq = drw wr d) (fun _ uv _ => k - (intOf uv).toNat)
              case atStart => exact ⟨0, Nat.zero_le _, rfl, by simp [allB], _, rfl⟩
              case round =>
                obtain ⟨u, hu, rfl, rfl, d, rfl⟩ := hrel
                by_cases huk : u < k
                · have huk' : (u : Int) < (k : Int) := by omega
                  have c7 := C7.out u (by rw [HLn.out]; exact huk)
                  have c7' := (HS.out.bel.cell (p := ⟨b7, o7 + u, none⟩) (World.block_lt_of_cell? _ _ c7)).trans c7
                  have d0 := HN.out.cell (j := u) (by rw [← HNw.out]; exact huk)
                  have HU : Hid ((cb || !allB (fun j => decide ((need rs i).getD j 0 ≤ now.getD j 0)) (u + 1)) = ((cb || !allB (fun j => decide ((need rs i).getD j 0 ≤ now.getD j 0)) u) || decide (now.getD u 0 < (need rs i).getD u 0))) := by
                    show _ = _
                    rw [allB]
                    have : decide ((need rs i).getD u 0 ≤ now.getD u 0) = !decide (now.getD u 0 < (need rs i).getD u 0) := by
                      by_cases h : now.getD u 0 < (need rs i).getD u 0
                      · rw [decide_eq_true h, decide_eq_false (show ¬ (need rs i).getD u 0 ≤ now.getD u 0 by omega)]; rfl
                      · rw [decide_eq_false h, decide_eq_true (show (need rs i).getD u 0 ≤ now.getD u 0 by omega)]; rfl
                    simp only [this]
                    cases cb <;> cases allB (fun j => decide ((need rs i).getD j 0 ≤ now.getD j 0)) u <;> cases decide (now.getD u 0 < (need rs i).getD u 0) <;> rfl
                  generalize (cb || !allB (fun j => decide ((need rs i).getD j 0 ≤ now.getD j 0)) u) = sb at HU ⊢
                  generalize now.getD u 0 = x at d0 HU
                  generalize (need rs i).getD u 0 = y at c7' HU
                  clear c7 b0
                  cases sb
                  · go_wp2
                    go_region
                    go_wp2
                    go_roundw
                    case rel => exact ⟨u + 1, by omega, by go_num, by rw [HU.out]; rfl, _, rfl⟩
                    case measure => simp [intOf]; omega
                  · go_wp2
                    go_region
                    go_wp2
                    go_roundw
                    case rel => exact ⟨u + 1, by omega, by go_num, by rw [HU.out]; rfl, _, rfl⟩
                    case measure => simp [intOf]; omega
                · have huk' : ¬ (u : Int) < (k : Int) := by omega
                  obtain rfl : u = k := by omega
                  rw [HE.out]
                  clear b0
                  go_wp2
                  go_roundw
                  case rel => exact ⟨i + 1, by omega, by go_num, _, rfl⟩
                  case measure => simp [intOf]; omega
            · have him' : ¬ (i : Int) < (m : Int) := by omega
              go_wp2_with ((go_at_call 11; refine (alive_any _).mono ?_; rintro e w' ⟨rfl, rfl⟩))
              go_ret
              exact ⟨rfl, up_of_below (HW.out.trans ((below_drw HS.out.bel _).mono HW.out.size))⟩
  · go_enter Try.func4, Try.ntmps4
    go_wp2
    go_ret
    exact ⟨rfl, up_of_below (Below.refl _ _)⟩

end Go.Proofs.Ytlahgikhndjfoaa
