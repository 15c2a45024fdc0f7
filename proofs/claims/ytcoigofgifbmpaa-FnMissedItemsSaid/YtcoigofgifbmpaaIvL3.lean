/-
  The walk of the law on valid items, and the functions that draw its arguments and those of the laws on plans. No condition beyond those that each theorem states.
-/
import Derived.Test.YtcoigofgifbmpaaIvD2
namespace Go.Proofs.Ytcoigofgifbmpaa
open Go.RowKit

def DrawnI (w : World) (g n c : Nat) (zs : List Int) (w' : World) : Prop := ItD n zs ∧ OwnG 38 2 w' w.heap.size (.slice (some ⟨g, 0, none⟩) n c) n zs ∧ Below w.heap.size w w'
theorem gone_below {w0 w w' : World} {b : Nat} {p k : Int} (h : Below w0.heap.size w0 w) (hb : w0.heap.size ≤ b) (hg : Gone w b p k w') : Below w0.heap.size w0 w' := by
  obtain ⟨p', _, _, os, d, rfl⟩ := hg
  exact below_plus (h.setCell (p := ⟨b, 1, none⟩) hb _) _ _
theorem DrawnI.short {w w' : World} {g n c : Nat} {v : List Int} (h : DrawnI w g n c v w') : n ≤ c ∧ c ≤ 9223372036854775807 := by
  obtain ⟨a', c', e, h1, h2, _⟩ := h.2.1.form
  simp only [Value.slice.injEq] at e
  obtain ⟨_, _, rfl⟩ := e
  unfold maxLen at h2
  exact ⟨h1, h2⟩

set_option maxHeartbeats 1000000 in
theorem drawItemsValid_any (a : Option Addr) (n c : Nat) (w : World) (hb : Bytes w w.heap.size a n) (hnc : n ≤ c) (hcm : c ≤ maxLen) :
    Calls Try.prog 21 #[.slice a n c] w fun e w' => ∃ (m : Nat) (zs : List Int) (g c' : Nat), e = .returned (.slice (some ⟨g, 0, none⟩) m c') ∧ DrawnI w g m c' zs w' := by
  go_enter Try.func21, Try.ntmps21
  go_wp2_with (first | (go_at_call 42; apply Calls.mono; (focus (apply open_any; (focus (apply Bytes.later hb; repeat (first | with_reducible exact Below.refl _ _ | with_reducible apply below_alloc | with_reducible apply below_drw | with_reducible apply below_drew | with_reducible apply below_drewN | with_reducible apply below_plus | with_reducible apply below_set | (simp; done)))); exact hnc; exact hcm)); rintro e w1 ⟨n1, c1, hs1, hB1, rfl, rfl⟩) | (go_at_call 46; apply Calls.mono; (focus (apply l20Items_any; (focus (repeat (first | with_reducible exact hr | (with_reducible apply Rd.base_at hs1 hB1; simp; done) | with_reducible apply Rd.plus | with_reducible apply Rd.drew | with_reducible apply Rd.drewN | with_reducible apply Rd.drw | with_reducible apply Rd.alloc | with_reducible apply Rd.set))); all_goals omega)); rintro e w1 ⟨m, zs, g, c', hP, rfl, hO, hG⟩))
  go_ret
  exact ⟨m, zs, g, c', rfl, hP, hO.more (by simp), gone_below (below_alloc (Below.refl _ _) _) (by simp) hG⟩

set_option maxHeartbeats 2000000 in
theorem drawPickPlan_any (a : Option Addr) (n c : Nat) (w : World) (hb : Bytes w w.heap.size a n) (hnc : n ≤ c) (hcm : c ≤ maxLen) :
    Calls Try.prog 24 #[.slice a n c] w fun e w' => ∃ (m : Nat) (zs : List Int) (g c' : Nat) (s l h : Int), WinD s l h ∧ e = .returned (.tuple #[.slice (some ⟨g, 0, none⟩) m c', .int .i64 s, .int .i64 l, .int .i64 h]) ∧ DrawnI w g m c' zs w' := by
  go_enter Try.func24, Try.ntmps24
  go_wp2_with (first | (go_at_call 42; apply Calls.mono; (focus (apply open_any; (focus (apply Bytes.later hb; repeat (first | with_reducible exact Below.refl _ _ | with_reducible apply below_alloc | with_reducible apply below_drw | with_reducible apply below_drew | with_reducible apply below_drewN | with_reducible apply below_plus | with_reducible apply below_set | (simp; done)))); exact hnc; exact hcm)); rintro e w1 ⟨n1, c1, hs1, hB1, rfl, rfl⟩))
  apply Calls.mono
  · apply l20Items_any
    · (focus (repeat (first | with_reducible exact hr | (with_reducible apply Rd.base_at hs1 hB1; simp; done) | with_reducible apply Rd.plus | with_reducible apply Rd.drew | with_reducible apply Rd.drewN | with_reducible apply Rd.drw | with_reducible apply Rd.alloc | with_reducible apply Rd.set)))
    all_goals omega
  rintro e w1 ⟨m, zs, g, c', hP, rfl, hO, hG⟩
  have hr1 : Rd (w.alloc (.cells #[.slice a n1 c1, .int .i64 0] 62)) w.heap.size a n1 c1 0 := Rd.base hs1 hB1
  obtain ⟨p1, hp0, hp1, os, d, rfl⟩ := hG
  have hr := (hr1.set p1).plus os d
  have HO := Lib.hid (hO.more (B' := w.heap.size + 1) (by simp))
  have HBW := Lib.hid (show Below w.heap.size w (plus ((w.alloc (.cells #[.slice a n1 c1, .int .i64 0] 62)).setCell ⟨w.heap.size, 1, none⟩ (.int .i64 p1)) os d) by repeat (first | with_reducible exact Below.refl _ _ | with_reducible apply below_alloc | with_reducible apply below_drw | with_reducible apply below_drew | with_reducible apply below_drewN | with_reducible apply below_plus | with_reducible apply below_set | (simp; done)))
  clear hO hr1
  generalize plus ((w.alloc (.cells #[.slice a n1 c1, .int .i64 0] 62)).setCell ⟨w.heap.size, 1, none⟩ (.int .i64 p1)) os d = W1 at hr HO HBW ⊢
  go_wp2_with fail
  apply Calls.mono
  · apply l20Window_any
    · exact hr
    all_goals omega
  rintro e w2 ⟨s, l, h, hW, rfl, p2, hq0, hq1, os2, d2, rfl⟩
  go_wp2
  refine bodyPost_ret (v := .tuple #[.slice (some ⟨g, 0, none⟩) m c', .int .i64 s, .int .i64 l, .int .i64 h]) (by simp [results, Try.results24, go_sem]) rfl ?_
  exact ⟨m, zs, g, c', s, l, h, hW, rfl, hP, ((HO.out.setb (show w.heap.size < w.heap.size + 1 by omega) _).plus _ _).more (by omega), below_plus (HBW.out.setCell (p := ⟨w.heap.size, 1, none⟩) (Nat.le_refl _) _) _ _⟩

theorem Ints.take {w : World} {a : Option Addr} {zs : List Int} (h : Ints w a zs) (k : Nat) : Ints w a (zs.take k) := by
  rcases h with rfl | ⟨blk, off, rfl, hc⟩
  · exact .inl (by simp)
  · refine .inr ⟨blk, off, rfl, fun i hi => ?_⟩
    simp at hi
    rw [hc i (by omega), List.getD_eq_getElem?_getD, List.getD_eq_getElem?_getD, List.getElem?_take_of_lt (by omega)]
theorem items_half {n h : Nat} {zs : List Int} (hp : itemsB n zs = true) (hh : h ≤ n) : itemsB h (zs.take (h * 2)) = true := by
  have h1 := itemsB_t.1 hp
  refine itemsB_t.2 ⟨by omega, fun j hj => ?_⟩
  have h2 := h1.2 j (by omega)
  unfold okI pX pY at h2 ⊢
  rw [List.getD_eq_getElem?_getD, List.getD_eq_getElem?_getD, List.getElem?_take_of_lt (by omega), List.getElem?_take_of_lt (by omega), ← List.getD_eq_getElem?_getD, ← List.getD_eq_getElem?_getD]
  exact h2
theorem items_zero {n : Nat} {zs : List Int} (hz : zs.length = n * 2) : itemsB (n + 1) (zs ++ [0, 0]) = false := by
  cases h : itemsB (n + 1) (zs ++ [0, 0]) with
  | false => rfl
  | true =>
    have h1 := okI_t.1 ((itemsB_t.1 h).2 n (by omega))
    have : pY (zs ++ [0, 0]) n = 0 := by
      unfold pY
      rw [at_new (by omega), show n * 2 + 1 - zs.length = 1 by omega]
      rfl
    omega

theorem wpList_wanted {ops : Array Oper} {rest : List Oper} {o : Oper} {a : Act} {w : World} {Q : Exit → Act → World → Prop} (hg : Region.wanted o (yielded ops a.tmps) = true)
    (h : ∀ K : Act → World → Prop, (∀ a w, wpList Try.prog ops Q rest a w → K a w) → o.wp Try.prog a w K Q) : wpList Try.prog ops Q (o :: rest) a w :=
  wpList_step fun K hK => by rw [if_pos hg]; exact h K hK
theorem wpList_appLg {ops : Array Oper} {rest : List Oper} {o : Oper} {a : Act} {w : World} {Q : Exit → Act → World → Prop} (s x : Operand)
    (ho : o.op = .call { callee := .builtin .append, args := #[s, x], argTypes := #[27, 27] }) (hgd : Region.wanted o (yielded ops a.tmps) = true) (B : Nat) (v : Value) (n : Nat) (zs : List Int) (hs : a.eval s = v) (hown : OwnG 38 2 w B v n zs) (g m c : Nat) (us : List Int)
    (hx : a.eval x = .slice (some ⟨g, 0, none⟩) m c) (hu : Ints w (some ⟨g, 0, none⟩) us) (hul : us.length = m * 2) (hlen : n + m ≤ 1000000000) (hB : B ≤ w.heap.size)
    (h : ∀ v' w', OwnG 38 2 w' B v' (n + m) (zs ++ us) → w.grownBy w' v.ownBlock → wpList Try.prog ops Q rest (a.put o.dst v') w') : wpList Try.prog ops Q (o :: rest) a w := by
  obtain ⟨i0, hi, hz0, hz1, hz2⟩ := info_parts infoE
  refine wpList_wanted hgd fun K hK => wp_append_own _ s x 27 ho B 38 i0 _ 2 16 Try.underlying27 hi hz0 hz1 hz2 rfl (by decide) v n _ hs hown ⟨g, 0, none⟩ m c (us.map (Value.int .i64)) hx (by simp [hul]) ?_ ?_ ?_ ?_ hB ?_
  · intro j u hj
    rw [List.getElem?_map] at hj
    obtain ⟨z, hz, rfl⟩ := Option.map_eq_some_iff.1 hj
    have hjl := (List.getElem?_eq_some_iff.1 hz).1
    rcases hu with h0 | ⟨b', o', e, hc⟩
    · rw [h0] at hjl; simp at hjl
    · simp only [Option.some.injEq, Addr.mk.injEq, and_true] at e
      obtain ⟨rfl, rfl⟩ := e
      rw [addr_add, hc j hjl, List.getD_eq_getElem?_getD, hz]
      rfl
  · intro u hu; obtain ⟨z, _, rfl⟩ := List.mem_map.1 hu; rfl
  · unfold maxLen; omega
  · omega
  · intro v' w' h1 h2 _
    refine hK _ _ (h v' w' ?_ h2)
    unfold OwnG
    simpa using h1
theorem wpList_app2g {ops : Array Oper} {rest : List Oper} {o : Oper} {a : Act} {w : World} {Q : Exit → Act → World → Prop} (s x : Operand)
    (ho : o.op = .call { callee := .builtin .append, args := #[s, x], argTypes := #[27, 27] }) (hgd : Region.wanted o (yielded ops a.tmps) = true) (B : Nat) (v : Value) (n : Nat) (zs : List Int) (hs : a.eval s = v) (hown : OwnG 38 2 w B v n zs) (b i : Nat) (y0 y1 : Int)
    (hx : a.eval x = .slice (some ⟨b, i, none⟩) 1 1) (hy0 : w.cell? ⟨b, i, none⟩ = some (.int .i64 y0)) (hy1 : w.cell? ⟨b, i + 1, none⟩ = some (.int .i64 y1)) (hlen : n ≤ 1000000000) (hB : B ≤ w.heap.size)
    (h : ∀ v' w', OwnG 38 2 w' B v' (n + 1) (zs ++ [y0, y1]) → w.grownBy w' v.ownBlock → wpList Try.prog ops Q rest (a.put o.dst v') w') : wpList Try.prog ops Q (o :: rest) a w := by
  obtain ⟨i0, hi, hz0, hz1, hz2⟩ := info_parts infoE
  refine wpList_wanted hgd fun K hK => wp_append_own _ s x 27 ho B 38 i0 _ 2 16 Try.underlying27 hi hz0 hz1 hz2 rfl (by decide) v n _ hs hown ⟨b, i, none⟩ 1 1 [.int .i64 y0, .int .i64 y1] hx rfl ?_ ?_ ?_ ?_ hB ?_
  · intro j u hj
    match j, hj with
    | 0, hj => simp at hj; subst hj; simpa [Addr.add] using hy0
    | 1, hj => simp at hj; subst hj; simpa [Addr.add] using hy1
  · intro u hu; simp at hu; rcases hu with rfl | rfl <;> rfl
  · unfold maxLen; omega
  · omega
  · intro v' w' h1 h2 _
    refine hK _ _ (h v' w' ?_ h2)
    unfold OwnG
    simpa using h1

set_option maxHeartbeats 2000000 in
theorem lawItemsValid_any (a : Option Addr) (n c : Nat) (w : World) (hb : Bytes w w.heap.size a n) (hnc : n ≤ c) (hcm : c ≤ maxLen) :
    Calls Try.prog 7 #[.slice a n c] w fun e w' => e = .returned (.bool true) ∧ Up w w' := by
  have hmm : c ≤ 9223372036854775807 := by unfold maxLen at hcm; omega
  by_cases hn : n ≤ 1048576
  · go_enter Try.func7, Try.ntmps7
    go_wp2_with (go_at_call 21; refine (drawItemsValid_any _ _ _ _ hb hnc hcm).mono ?_; rintro e w1 ⟨m, zs, g, c1, rfl, hD⟩)
    have hz := hD.2.1.len
    obtain ⟨hmc, hc1⟩ := hD.short
    have hm16 := hD.1.1
    have HI := Lib.hid hD.2.1.ints.2
    have HW := Lib.hid hD.2.2
    have HZ := Lib.hid hz
    clear hD hz hb
    go_wp2_with fail
    refine (valid_any _ _ _ zs _ HZ.out HI.out (by omega)).mono ?_
    rintro e w2 ⟨rfl, hU⟩
    have HI2 := Lib.hid (HI.out.below hU.below)
    have HW2 := Lib.hid (HW.out.trans (hU.below.mono HW.out.size))
    clear hU
    go_wp2_with fail
    refine (sValid_any _ _ _ zs _ HZ.out HI2.out (by omega)).mono ?_
    rintro e w' ⟨rfl, rfl⟩
    cases hp : itemsB m zs
    · have cV := fun (W : World) (a : Option Addr) (c' : Nat) (hi : Ints W a (zs ++ [0, 0])) => valid_any a (m + 1) c' (zs ++ [0, 0]) W (by have := HZ.out; simp; omega) hi (by omega)
      rw [items_zero HZ.out] at cV
      have CV := Lib.hid cV
      clear cV hp
      have hB := HW2.out.size
      go_wp2_with (first | (at_builtin; refine wpList_appLg _ _ rfl rfl w2.heap.size _ _ [] rfl (OwnG.made 38 2 w2 w2.heap.size (Nat.le_refl _)) g m c1 zs rfl (HI2.out.below ((Below.refl _ _).alloc (Nat.le_refl _) _)) HZ.out (by omega) (by simp) ?_; intro v1 w6 hown hgrow; rw [Nat.zero_add, List.nil_append] at hown; have hB3 : w2.heap.size ≤ w6.heap.size := (by have := hgrow.size; simp at this; omega); have HO3 := Lib.hid hown; have HG3 := Lib.hid hgrow; clear hown hgrow) | (at_builtin; refine wpList_app2g _ _ rfl rfl w2.heap.size _ m zs rfl (HO3.out.alloc _) _ 0 0 0 rfl (cell_new' (by simp) rfl) (cell_new' (by simp) rfl) (by omega) (by simp; omega) ?_; intro v4 w7 hown hgrow4))
      have HO4 := Lib.hid hown
      have HG4 := Lib.hid hgrow4
      clear hown hgrow4
      obtain ⟨g4, cap4, rfl, hg41, hg42⟩ := HO4.out.head (by omega)
      go_wp2_with fail
      refine (CV.out _ _ _ HO4.out.ints.2).mono ?_
      rintro e w8 ⟨rfl, hU8⟩
      have HB6 := Lib.hid (((HW2.out.alloc HW2.out.size _).grown HG3.out (by simp; omega) (fun g hg => by have := ((OwnG.made 38 2 w2 w2.heap.size (Nat.le_refl _)).lt g hg).1; omega)))
      have HB7 := Lib.hid ((HB6.out.alloc HB6.out.size _).grown HG4.out (by simp; omega) (fun g hg => by have := (HO3.out.lt g hg).1; omega))
      have HB8 := Lib.hid (HB7.out.trans (hU8.below.mono HB7.out.size))
      clear hU8
      go_wp2_with ((go_at_call 20; refine (alive_any _).mono ?_; rintro e w' ⟨rfl, rfl⟩))
      go_ret
      exact ⟨rfl, up_of_below HB8.out⟩
    · obtain ⟨h, hh⟩ : ∃ h, h = m / 2 := ⟨_, rfl⟩
      have e1 : (m : Int).tdiv 2 = (h : Int) := by rw [hh, Int.tdiv_eq_ediv_of_nonneg (by omega)]; simp
      have hhm : h ≤ m := by omega
      clear hh
      have hl1 : (h : Int) ≤ (c1 : Int) := by omega
      have e2 : IntKind.i64.wrap (h : Int) = h := IntWalk.i64_in _ (by omega)
      have hHP := items_half hp hhm
      have cH := fun W hi => valid_any (some ⟨g, 0, none⟩) h c1 (zs.take (h * 2)) W (by have := HZ.out; rw [List.length_take]; omega) hi (by omega)
      rw [hHP] at cH
      clear hHP hp
      go_wp2_with fail
      refine (cH _ (HI2.out.take _)).mono ?_
      rintro e w3 ⟨rfl, hU⟩
      have HI3 := Lib.hid (HI2.out.below hU.below)
      have HW3 := Lib.hid (HW2.out.trans (hU.below.mono HW2.out.size))
      clear hU cH
      have cV := fun (W : World) (a : Option Addr) (c' : Nat) (hi : Ints W a (zs ++ [0, 0])) => valid_any a (m + 1) c' (zs ++ [0, 0]) W (by have := HZ.out; simp; omega) hi (by omega)
      rw [items_zero HZ.out] at cV
      have CV := Lib.hid cV
      clear cV
      have hB := HW3.out.size
      go_wp2_with (first | (at_builtin; refine wpList_appLg _ _ rfl rfl w3.heap.size _ _ [] rfl (OwnG.made 38 2 w3 w3.heap.size (Nat.le_refl _)) g m c1 zs rfl (HI3.out.below ((Below.refl _ _).alloc (Nat.le_refl _) _)) HZ.out (by omega) (by simp) ?_; intro v1 w6 hown hgrow; rw [Nat.zero_add, List.nil_append] at hown; have hB3 : w3.heap.size ≤ w6.heap.size := (by have := hgrow.size; simp at this; omega); have HO3 := Lib.hid hown; have HG3 := Lib.hid hgrow; clear hown hgrow) | (at_builtin; refine wpList_app2g _ _ rfl rfl w3.heap.size _ m zs rfl (HO3.out.alloc _) _ 0 0 0 rfl (cell_new' (by simp) rfl) (cell_new' (by simp) rfl) (by omega) (by simp; omega) ?_; intro v4 w7 hown hgrow4))
      have HO4 := Lib.hid hown
      have HG4 := Lib.hid hgrow4
      clear hown hgrow4
      obtain ⟨g4, cap4, rfl, hg41, hg42⟩ := HO4.out.head (by omega)
      go_wp2_with fail
      refine (CV.out _ _ _ HO4.out.ints.2).mono ?_
      rintro e w8 ⟨rfl, hU8⟩
      have HB6 := Lib.hid (((HW3.out.alloc HW3.out.size _).grown HG3.out (by simp; omega) (fun g hg => by have := ((OwnG.made 38 2 w3 w3.heap.size (Nat.le_refl _)).lt g hg).1; omega)))
      have HB7 := Lib.hid ((HB6.out.alloc HB6.out.size _).grown HG4.out (by simp; omega) (fun g hg => by have := (HO3.out.lt g hg).1; omega))
      have HB8 := Lib.hid (HB7.out.trans (hU8.below.mono HB7.out.size))
      clear hU8
      go_wp2_with ((go_at_call 20; refine (alive_any _).mono ?_; rintro e w' ⟨rfl, rfl⟩))
      go_ret
      exact ⟨rfl, up_of_below HB8.out⟩
  · go_enter Try.func7, Try.ntmps7
    go_wp2
    go_ret
    exact ⟨rfl, up_of_below (Below.refl _ _)⟩

end Go.Proofs.Ytcoigofgifbmpaa
