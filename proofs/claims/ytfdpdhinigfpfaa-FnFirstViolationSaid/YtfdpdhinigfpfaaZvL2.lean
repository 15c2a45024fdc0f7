/-
  The walk of the law on valid zones. No condition beyond those that each theorem states.
-/
import Derived.Test.YtfdpdhinigfpfaaZd
import Derived.Test.YtfdpdhinigfpfaaZv
namespace Go.Proofs.Ytfdpdhinigfpfaa
open Go.RowKit

theorem at_old {zs us : List Int} {i : Nat} (h : i < zs.length) : (zs ++ us).getD i 0 = zs.getD i 0 := by
  rw [List.getD_eq_getElem?_getD, List.getElem?_append_left h, ← List.getD_eq_getElem?_getD]
theorem at_new {zs us : List Int} {i : Nat} (h : zs.length ≤ i) : (zs ++ us).getD i 0 = us.getD (i - zs.length) 0 := by
  rw [List.getD_eq_getElem?_getD, List.getElem?_append_right h, ← List.getD_eq_getElem?_getD]
theorem Ints.take {w : World} {a : Option Addr} {zs : List Int} (h : Ints w a zs) (k : Nat) : Ints w a (zs.take k) := by
  rcases h with rfl | ⟨blk, off, rfl, hc⟩
  · exact .inl (by simp)
  · refine .inr ⟨blk, off, rfl, fun i hi => ?_⟩
    simp at hi
    rw [hc i (by omega), List.getD_eq_getElem?_getD, List.getD_eq_getElem?_getD, List.getElem?_take_of_lt (by omega)]
theorem zones_half {n h : Nat} {zs : List Int} (hp : zonesB n zs = true) (hh : h ≤ n) : zonesB h (zs.take (h * 4)) = true := by
  have h1 := zonesB_t.1 hp
  refine zonesB_t.2 ⟨by omega, fun j hj => ?_⟩
  have h2 := h1.2 j (by omega)
  unfold okZ zX zY zR zS at h2 ⊢
  rw [List.getD_eq_getElem?_getD, List.getD_eq_getElem?_getD, List.getD_eq_getElem?_getD, List.getD_eq_getElem?_getD, List.getElem?_take_of_lt (by omega), List.getElem?_take_of_lt (by omega), List.getElem?_take_of_lt (by omega), List.getElem?_take_of_lt (by omega), ← List.getD_eq_getElem?_getD, ← List.getD_eq_getElem?_getD, ← List.getD_eq_getElem?_getD, ← List.getD_eq_getElem?_getD]
  exact h2
theorem zones_neg {n : Nat} {zs : List Int} (hz : zs.length = n * 4) : zonesB (n + 1) (zs ++ [0, 0, -1, 0]) = false := by
  cases h : zonesB (n + 1) (zs ++ [0, 0, -1, 0]) with
  | false => rfl
  | true =>
    have h1 := okZ_t.1 ((zonesB_t.1 h).2 n (by omega))
    have : zR (zs ++ [0, 0, -1, 0]) n = -1 := by
      unfold zR
      rw [at_new (by omega), show n * 4 + 2 - zs.length = 2 by omega]
      rfl
    omega

theorem wpList_appZg {ops : Array Oper} {rest : List Oper} {o : Oper} {a : Act} {w : World} {Q : Exit → Act → World → Prop} (s x : Operand)
    (ho : o.op = .call { callee := .builtin .append, args := #[s, x], argTypes := #[32, 32] }) (hgd : Region.wanted o (yielded ops a.tmps) = true) (B : Nat) (v : Value) (n : Nat) (zs : List Int) (hs : a.eval s = v) (hown : OwnG 38 4 w B v n zs) (g m c : Nat) (us : List Int)
    (hx : a.eval x = .slice (some ⟨g, 0, none⟩) m c) (hu : Ints w (some ⟨g, 0, none⟩) us) (hul : us.length = m * 4) (hlen : n + m ≤ 1000000000) (hB : B ≤ w.heap.size)
    (h : ∀ v' w', OwnG 38 4 w' B v' (n + m) (zs ++ us) → w.grownBy w' v.ownBlock → wpList Try.prog ops Q rest (a.put o.dst v') w') : wpList Try.prog ops Q (o :: rest) a w := by
  obtain ⟨i0, hi, hz0, hz1, hz2⟩ := info_parts infoZ
  refine wpList_wanted hgd fun K hK => wp_append_own _ s x 32 ho B 38 i0 _ 4 32 Try.underlying32 hi hz0 hz1 hz2 rfl (by decide) v n _ hs hown ⟨g, 0, none⟩ m c (us.map (Value.int .i64)) hx (by simp [hul]) ?_ ?_ ?_ ?_ hB ?_
  · intro j u hj
    rw [List.getElem?_map] at hj
    obtain ⟨z, hz, rfl⟩ := Option.map_eq_some_iff.1 hj
    have hjl := (List.getElem?_eq_some_iff.1 hz).1
    rcases hu with h0 | ⟨b', o', e, hc⟩
    · rw [h0] at hjl; simp at hjl
    · simp only [Option.some.injEq, Addr.mk.injEq, and_true] at e
      obtain ⟨rfl, rfl⟩ := e
      rw [addr_add, hc j hjl, List.getD_eq_getElem?_getD, hz]
      rfl
  · intro u hu; obtain ⟨z, _, rfl⟩ := List.mem_map.1 hu; rfl
  · unfold maxLen; omega
  · omega
  · intro v' w' h1 h2 _
    refine hK _ _ (h v' w' ?_ h2)
    unfold OwnG
    simpa using h1

set_option maxHeartbeats 2000000 in
theorem lawZonesValid_any (a : Option Addr) (n c : Nat) (w : World) (hb : Bytes w w.heap.size a n) (hnc : n ≤ c) (hcm : c ≤ maxLen) :
    Calls Try.prog 6 #[.slice a n c] w fun e w' => e = .returned (.bool true) ∧ Up w w' := by
  have hmm : c ≤ 9223372036854775807 := by unfold maxLen at hcm; omega
  by_cases hn : n ≤ 1048576
  · go_enter Try.func6, Try.ntmps6
    go_wp2_with (go_at_call 20; refine (drawZonesValid_any _ _ _ _ hb hnc hcm).mono ?_; rintro e w1 ⟨m, zs, g, c1, rfl, hD⟩)
    have hz := hD.2.1.len
    obtain ⟨hmc, hc1⟩ := hD.short
    have hm16 := hD.1
    have HI := Lib.hid hD.2.1.ints.2
    have HW := Lib.hid hD.2.2
    have HZ := Lib.hid hz
    clear hD hz hb
    go_wp2_with fail
    refine (zvalid_any _ _ _ zs _ HZ.out HI.out (by omega)).mono ?_
    rintro e w2 ⟨rfl, hU⟩
    have HI2 := Lib.hid (HI.out.below hU.below)
    have HW2 := Lib.hid (HW.out.trans (hU.below.mono HW.out.size))
    clear hU
    go_wp2_with fail
    refine (sZvalid_any _ _ _ zs _ HZ.out HI2.out (by omega)).mono ?_
    rintro e w9 ⟨rfl, hU⟩
    replace HW2 := Lib.hid (HW2.out.trans (hU.below.mono HW2.out.size))
    replace HI2 := Lib.hid (HI2.out.below hU.below)
    clear hU
    clear HI HW
    cases hp : zonesB m zs
    · have cV := fun (W : World) (a : Option Addr) (c' : Nat) (hi : Ints W a (zs ++ [0, 0, -1, 0])) => zvalid_any a (m + 1) c' (zs ++ [0, 0, -1, 0]) W (by have := HZ.out; simp; omega) hi (by omega)
      rw [zones_neg HZ.out] at cV
      have CV := Lib.hid cV
      clear cV hp
      have hB := HW2.out.size
      go_wp2_with (first | (at_builtin; refine wpList_appZg _ _ rfl rfl w9.heap.size _ _ [] rfl (OwnG.made 38 4 w9 w9.heap.size (Nat.le_refl _)) g m c1 zs rfl (HI2.out.below ((Below.refl _ _).alloc (Nat.le_refl _) _)) HZ.out (by omega) (by simp) ?_; intro v1 w6 hown hgrow; rw [Nat.zero_add, List.nil_append] at hown; have hB3 : w9.heap.size ≤ w6.heap.size := (by have := hgrow.size; simp at this; omega); have HO3 := Lib.hid hown; have HG3 := Lib.hid hgrow; clear hown hgrow) | (at_builtin; refine wpList_app4 _ _ rfl rfl w9.heap.size _ m zs rfl (HO3.out.alloc _) _ 0 0 0 (-1) 0 rfl (cell_new' (by simp) rfl) (cell_new' (by simp) rfl) (cell_new' (by simp) rfl) (cell_new' (by simp) rfl) (by omega) (by simp; omega) ?_; intro v4 w7 hown hgrow4))
      have HO4 := Lib.hid hown
      have HG4 := Lib.hid hgrow4
      clear hown hgrow4
      obtain ⟨g4, cap4, rfl, hg41, hg42⟩ := HO4.out.head (by omega)
      go_wp2_with fail
      refine (CV.out _ _ _ HO4.out.ints.2).mono ?_
      rintro e w8 ⟨rfl, hU8⟩
      have HB6 := Lib.hid (((HW2.out.alloc HW2.out.size _).grown HG3.out (by simp; omega) (fun g hg => by have := ((OwnG.made 38 4 w9 w9.heap.size (Nat.le_refl _)).lt g hg).1; omega)))
      have HB7 := Lib.hid ((HB6.out.alloc HB6.out.size _).grown HG4.out (by simp; omega) (fun g hg => by have := (HO3.out.lt g hg).1; omega))
      have HB8 := Lib.hid (HB7.out.trans (hU8.below.mono HB7.out.size))
      clear hU8
      go_wp2_with ((go_at_call 18; refine (alive_any _).mono ?_; rintro e w' ⟨rfl, rfl⟩))
      go_ret
      exact ⟨rfl, up_of_below HB8.out⟩
    · obtain ⟨h, hh⟩ : ∃ h, h = m / 2 := ⟨_, rfl⟩
      have e1 : (m : Int).tdiv 2 = (h : Int) := by rw [hh, Int.tdiv_eq_ediv_of_nonneg (by omega)]; simp
      have hhm : h ≤ m := by omega
      clear hh
      have hl1 : (h : Int) ≤ (c1 : Int) := by omega
      have e2 : IntKind.i64.wrap (h : Int) = h := IntWalk.i64_in _ (by omega)
      have hHP := zones_half hp hhm
      have cH := fun W hi => zvalid_any (some ⟨g, 0, none⟩) h c1 (zs.take (h * 4)) W (by have := HZ.out; rw [List.length_take]; omega) hi (by omega)
      rw [hHP] at cH
      clear hHP hp
      go_wp2_with fail
      refine (cH _ (HI2.out.take _)).mono ?_
      rintro e w3 ⟨rfl, hU⟩
      have HI3 := Lib.hid (HI2.out.below hU.below)
      have HW3 := Lib.hid (HW2.out.trans (hU.below.mono HW2.out.size))
      clear hU cH
      have cV := fun (W : World) (a : Option Addr) (c' : Nat) (hi : Ints W a (zs ++ [0, 0, -1, 0])) => zvalid_any a (m + 1) c' (zs ++ [0, 0, -1, 0]) W (by have := HZ.out; simp; omega) hi (by omega)
      rw [zones_neg HZ.out] at cV
      have CV := Lib.hid cV
      clear cV
      have hB := HW3.out.size
      go_wp2_with (first | (at_builtin; refine wpList_appZg _ _ rfl rfl w3.heap.size _ _ [] rfl (OwnG.made 38 4 w3 w3.heap.size (Nat.le_refl _)) g m c1 zs rfl (HI3.out.below ((Below.refl _ _).alloc (Nat.le_refl _) _)) HZ.out (by omega) (by simp) ?_; intro v1 w6 hown hgrow; rw [Nat.zero_add, List.nil_append] at hown; have hB3 : w3.heap.size ≤ w6.heap.size := (by have := hgrow.size; simp at this; omega); have HO3 := Lib.hid hown; have HG3 := Lib.hid hgrow; clear hown hgrow) | (at_builtin; refine wpList_app4 _ _ rfl rfl w3.heap.size _ m zs rfl (HO3.out.alloc _) _ 0 0 0 (-1) 0 rfl (cell_new' (by simp) rfl) (cell_new' (by simp) rfl) (cell_new' (by simp) rfl) (cell_new' (by simp) rfl) (by omega) (by simp; omega) ?_; intro v4 w7 hown hgrow4))
      have HO4 := Lib.hid hown
      have HG4 := Lib.hid hgrow4
      clear hown hgrow4
      obtain ⟨g4, cap4, rfl, hg41, hg42⟩ := HO4.out.head (by omega)
      go_wp2_with fail
      refine (CV.out _ _ _ HO4.out.ints.2).mono ?_
      rintro e w8 ⟨rfl, hU8⟩
      have HB6 := Lib.hid (((HW3.out.alloc HW3.out.size _).grown HG3.out (by simp; omega) (fun g hg => by have := ((OwnG.made 38 4 w3 w3.heap.size (Nat.le_refl _)).lt g hg).1; omega)))
      have HB7 := Lib.hid ((HB6.out.alloc HB6.out.size _).grown HG4.out (by simp; omega) (fun g hg => by have := (HO3.out.lt g hg).1; omega))
      have HB8 := Lib.hid (HB7.out.trans (hU8.below.mono HB7.out.size))
      clear hU8
      go_wp2_with ((go_at_call 18; refine (alive_any _).mono ?_; rintro e w' ⟨rfl, rfl⟩))
      go_ret
      exact ⟨rfl, up_of_below HB8.out⟩
  · go_enter Try.func6, Try.ntmps6
    go_wp2
    go_ret
    exact ⟨rfl, up_of_below (Below.refl _ _)⟩

end Go.Proofs.Ytfdpdhinigfpfaa
