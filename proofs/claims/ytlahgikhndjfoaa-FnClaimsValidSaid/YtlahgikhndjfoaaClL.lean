/-
  The walk of the law on valid claims. No condition beyond those that each theorem states.
-/
import Derived.Test.YtlahgikhndjfoaaClD4
namespace Go.Proofs.Ytlahgikhndjfoaa
open Go.RowKit

/-! ### plain -/
theorem hold_take {rs : List (List Int)} {h j : Nat} (hj : j < h) : hold (rs.take (h * 2)) j = hold rs j ∧ need (rs.take (h * 2)) j = need rs j := by
  unfold hold need
  rw [List.getD_eq_getElem?_getD, List.getD_eq_getElem?_getD, List.getD_eq_getElem?_getD, List.getD_eq_getElem?_getD, List.getElem?_take_of_lt (by omega), List.getElem?_take_of_lt (by omega)]
  exact ⟨rfl, rfl⟩
theorem claims_half {n h : Nat} {rs : List (List Int)} {fs : List Int} (hp : claimsB n rs fs = true) (hh : h ≤ n) : claimsB h (rs.take (h * 2)) fs = true := by
  unfold claimsB at hp ⊢
  simp only [Bool.and_eq_true, decide_eq_true_eq] at hp ⊢
  obtain ⟨⟨⟨h1, h2⟩, h3⟩, h4⟩ := hp
  refine ⟨⟨⟨by omega, h2⟩, h3⟩, allB_t.2 fun j hj => ?_⟩
  have := allB_t.1 h4 j (by omega)
  unfold okC at this ⊢
  rw [(hold_take hj).1, (hold_take hj).2]
  exact this
theorem claims_more {n : Nat} {rs : List (List Int)} {fs : List Int} (hz : rs.length = n * 2) (hf : 1 ≤ fs.length) : claimsB (n + 1) (rs ++ [[], []]) fs = false := by
  unfold claimsB
  have : allB (okC (rs ++ [[], []]) fs.length) (n + 1) = false := by
    refine allB_f (j := n) (by omega) ?_
    unfold okC amtB hold
    rw [List.getD_eq_getElem?_getD, List.getElem?_append_right (by omega), hz, Nat.sub_self]
    simp
    omega
  rw [this, Bool.and_false]

theorem Grid.take {w : World} {a : Option Addr} {rs : List (List Int)} (h : Grid w a rs) (k : Nat) : Grid w a (rs.take k) := by
  rcases h with h | ⟨blk, off, ha, hc⟩
  · exact .inl (by rw [h, List.take_nil])
  · refine .inr ⟨blk, off, ha, fun i hi => ?_⟩
    simp at hi
    obtain ⟨u, h1, h2⟩ := hc i (by omega)
    refine ⟨u, h1, ?_⟩
    rw [List.getD_eq_getElem?_getD, List.getElem?_take_of_lt (by omega), ← List.getD_eq_getElem?_getD]
    exact h2
/-- The cells of a list that reads. -/
theorem Grid.cells {w : World} {g : Nat} {rs : List (List Int)} (h : Grid w (some ⟨g, 0, none⟩) rs) : ∃ vs : List Value, vs.length = rs.length ∧ ∀ j, j < rs.length → w.cell? ⟨g, j, none⟩ = some (vs.getD j undef) ∧ RowV w (vs.getD j undef) (rs.getD j []) := by
  rcases h with h | ⟨blk, off, ha, hc⟩
  · subst h; exact ⟨[], rfl, fun j hj => absurd hj (Nat.not_lt_zero _)⟩
  · simp only [Option.some.injEq, Addr.mk.injEq, and_true] at ha
    obtain ⟨rfl, rfl⟩ := ha
    have hall : ∀ j, ∃ u : Value, j < rs.length → w.cell? ⟨g, j, none⟩ = some u ∧ RowV w u (rs.getD j []) := by
      intro j
      by_cases hj : j < rs.length
      · obtain ⟨u, h1, h2⟩ := hc j hj
        rw [Nat.zero_add] at h1
        exact ⟨u, fun _ => ⟨h1, h2⟩⟩
      · exact ⟨undef, fun h => absurd h hj⟩
    obtain ⟨F, hF⟩ := Classical.axiomOfChoice hall
    refine ⟨(List.range rs.length).map F, by simp, fun j hj => ?_⟩
    have e : ((List.range rs.length).map F).getD j undef = F j := by simp [hj]
    rw [e]
    exact hF j hj
/-- A list of claims of the call's own, whose rows read. -/
theorem grid_of {w : World} {B n : Nat} {v : Value} {us : List Value} {rs : List (List Int)} (h : w.ownsRow B 34 2 v n us) (hz : rs.length = n * 2) (hr : ∀ j, j < rs.length → RowV w (us.getD j undef) (rs.getD j [])) (hn : 0 < n) :
    ∃ g cap, v = .slice (some ⟨g, 0, none⟩) n cap ∧ n ≤ cap ∧ cap ≤ maxLen ∧ Grid w (some ⟨g, 0, none⟩) rs := by
  have hl := h.1
  rcases h.2 with ⟨_, h0⟩ | ⟨g, cap, cur, e, hb, hg, hnc, hc, hs, ht⟩
  · omega
  · refine ⟨g, cap, e, hnc, hc, .inr ⟨g, 0, rfl, fun i hi => ?_⟩⟩
    subst e
    have hc1 := World.ownsRow.cellAt h i (by omega)
    rw [Nat.zero_add, hc1]
    have hi' : i < us.length := by omega
    exact ⟨us.getD i undef, by simp [hi'], hr i hi⟩

theorem wpList_wanted {ops : Array Oper} {rest : List Oper} {o : Oper} {a : Act} {w : World} {Q : Exit → Act → World → Prop} (hg : Region.wanted o (yielded ops a.tmps) = true)
    (h : ∀ K : Act → World → Prop, (∀ a w, wpList Try.prog ops Q rest a w → K a w) → o.wp Try.prog a w K Q) : wpList Try.prog ops Q (o :: rest) a w :=
  wpList_step fun K hK => by rw [if_pos hg]; exact h K hK
/-- append(list, other...). -/
theorem wpList_appCg {ops : Array Oper} {rest : List Oper} {o : Oper} {a : Act} {w : World} {Q : Exit → Act → World → Prop} (s x : Operand)
    (ho : o.op = .call { callee := .builtin .append, args := #[s, x], argTypes := #[23, 23] }) (hgd : Region.wanted o (yielded ops a.tmps) = true) (B : Nat) (v : Value) (n : Nat) (us : List Value) (hs : a.eval s = v) (hown : w.ownsRow B 34 2 v n us) (g m c : Nat) (vs : List Value)
    (hx : a.eval x = .slice (some ⟨g, 0, none⟩) m c) (hu : ∀ j, j < m * 2 → w.cell? ⟨g, j, none⟩ = some (vs.getD j undef)) (hk : ∀ j, j < m * 2 → ∃ x l c, vs.getD j undef = .slice x l c) (hul : vs.length = m * 2) (hlen : n + m ≤ 100000000) (hB : B ≤ w.heap.size)
    (h : ∀ v' w', w'.ownsRow B 34 2 v' (n + m) (us ++ vs) → w.grownBy w' v.ownBlock → wpList Try.prog ops Q rest (a.put o.dst v') w') : wpList Try.prog ops Q (o :: rest) a w := by
  obtain ⟨i0, hi, hz0, hz1, hz2⟩ := info_parts infoC
  refine wpList_wanted hgd fun K hK => wp_append_own _ s x 23 ho B 34 i0 _ 2 48 Try.underlying23 hi hz0 hz1 hz2 rfl (by decide) v n _ hs hown ⟨g, 0, none⟩ m c vs hx hul ?_ ?_ ?_ ?_ hB ?_
  · intro j u hj
    have hjl := (List.getElem?_eq_some_iff.1 hj).1
    have := hu j (by omega)
    rw [List.getD_eq_getElem?_getD, hj] at this
    rw [addr_add, Nat.zero_add]
    exact this
  · intro u hu2
    obtain ⟨j, hj, rfl⟩ := List.getElem_of_mem hu2
    obtain ⟨x, l, c, e⟩ := hk j (by omega)
    rw [List.getD_eq_getElem?_getD, List.getElem?_eq_getElem hj] at e
    simp only [Option.getD_some] at e
    rw [e]
    rfl
  · unfold maxLen; omega
  · omega
  · intro v' w' h1 h2 _
    exact hK _ _ (h v' w' h1 h2)

theorem row_nil (w : World) : RowV w (.slice none 0 0) [] := ⟨none, 0, rfl, Nat.le_refl _, Nat.zero_le _, .inl rfl⟩

set_option maxHeartbeats 2000000 in
theorem lawClaimsValid_any (a : Option Addr) (n c : Nat) (w : World) (hb : Bytes w w.heap.size a n) (hnc : n ≤ c) (hcm : c ≤ maxLen) :
    Calls Try.prog 5 #[.slice a n c] w fun e w' => e = .returned (.bool true) ∧ Up w w' := by
  have hmm : c ≤ 9223372036854775807 := by unfold maxLen at hcm; omega
  by_cases hn : n ≤ 1048576
  · go_enter Try.func5, Try.ntmps5
    go_wp2_with (go_at_call 16; refine (drawClaimsValid_any _ _ _ _ hb hnc hcm).mono ?_; rintro e w1 ⟨m, c1, g, rs, fa, fc, k, fs, p1, p2, p3, p4, p5, p6, p7, p8, p9, p10, rfl, hG, hI, hW⟩)
    have HW := Lib.hid hW
    have HG := Lib.hid hG
    have HI := Lib.hid hI
    have HZ := Lib.hid p6
    have HF := Lib.hid p7
    have HR : Hid (rowsMax rs 1000000000) := fun i => by have := p10 i; omega
    unfold maxLen at p3 p5
    clear hb hW hG hI p6 p7 p10
    go_wp2_with fail
    refine (valid_any _ fa m c1 k fc rs fs _ HZ.out HG.out HR.out (by omega) HF.out.symm HI.out (by omega)).mono ?_
    rintro e w2 ⟨rfl, hU⟩
    have HG := Lib.hid (HG.out.below hU.below)
    have HI := Lib.hid (HI.out.below hU.below)
    have HW := Lib.hid (HW.out.trans (hU.below.mono HW.out.size))
    clear hU
    go_wp2_with fail
    refine (sValid_any _ fa m c1 k fc rs fs _ HZ.out HG.out HR.out (by omega) HF.out.symm HI.out (by omega)).mono ?_
    rintro e w9 ⟨rfl, rfl⟩
    have CV := Lib.hid (fun (W : World) (a : Option Addr) (c' : Nat) (hg : Grid W a (rs ++ [[], []])) (hf : Ints W fa fs) => by
      have h := valid_any a fa (m + 1) c' k fc (rs ++ [[], []]) fs W (by have := HZ.out; simp; omega) hg (fun i => by
        have := HR.out i
        by_cases hi : i < rs.length
        · rw [List.getD_eq_getElem?_getD, List.getElem?_append_left hi, ← List.getD_eq_getElem?_getD]; exact this
        · have h0 : ((rs ++ [[], []]).getD i []).length = 0 := by
            rw [List.getD_eq_getElem?_getD, List.getElem?_append_right (by omega)]
            generalize i - rs.length = t
            match t with
            | 0 => rfl
            | 1 => rfl
            | t + 2 => rfl
          omega) (by omega) HF.out.symm hf (by omega)
      rwa [claims_more HZ.out (by rw [HF.out]; exact p8)] at h)
    have hk0 : ((k : Int) == 0) = false := by simp; omega
    obtain ⟨vs, hvl, hvc⟩ := HG.out.cells
    have HVL := Lib.hid hvl
    have HVC := Lib.hid hvc
    clear hvl hvc
    cases hp : claimsB m rs fs
    · clear hp
      have hB := HW.out.size
      go_wp2_with (first | (at_builtin; refine wpList_appCg _ _ rfl rfl w2.heap.size _ 0 [] rfl (World.ownsRow_lit w2 #[] 0 (Nat.le_refl _) (Nat.zero_le _) (by simp)) g m c1 vs rfl ?_ ?_ (by rw [HVL.out, HZ.out]) (by omega) (by simp) ?_; (case refine_1 => exact fun j hj => ((((Below.refl _ _).alloc (Nat.le_refl _) _).cell (p := ⟨g, j, none⟩) (World.block_lt_of_cell? _ _ (HVC.out j (by rw [HZ.out]; exact hj)).1)).trans (HVC.out j (by rw [HZ.out]; exact hj)).1)); (case refine_2 => intro j hj; obtain ⟨x, c, e, _⟩ := (HVC.out j (by rw [HZ.out]; exact hj)).2; exact ⟨x, _, c, e⟩); intro v1 w6 hown hgrow; rw [Nat.zero_add, List.nil_append] at hown; have hB3 : w2.heap.size ≤ w6.heap.size := (by have := hgrow.size; simp at this; omega); have HO3 := Lib.hid hown; have HG3 := Lib.hid hgrow; clear hown hgrow) | (at_builtin; refine wpList_appCg _ _ rfl rfl w2.heap.size _ m vs rfl (World.ownsRow.alloc HO3.out _) _ 1 1 [.slice none 0 0, .slice none 0 0] rfl ?_ ?_ rfl (by omega) (by simp; omega) ?_; (case refine_1 => intro j hj; match j, hj with | 0, _ => exact cell_new' (by simp) rfl | 1, _ => exact cell_new' (by simp) rfl); (case refine_2 => intro j hj; match j, hj with | 0, _ => exact ⟨_, _, _, rfl⟩ | 1, _ => exact ⟨_, _, _, rfl⟩); intro v4 w7 hown hgrow4))
      have HB6 := Lib.hid (((Below.refl w2.heap.size w2).alloc (Nat.le_refl _) _).grown HG3.out (by simp) (fun g hg => ((CR.made w2 w2.heap.size (Nat.le_refl _)).row.lt g hg).1))
      have HB7 := Lib.hid ((HB6.out.alloc HB6.out.size _).grown hgrow4 (by simp; omega) (fun g hg => by have := (World.ownsRow.lt HO3.out g hg).1; omega))
      obtain ⟨g4, cap4, rfl, hg41, hg42, hG4⟩ := grid_of (rs := rs ++ [[], []]) hown (by have := HZ.out; simp; omega) (fun j hj => by
        by_cases hjr : j < rs.length
        · have h1 := (HVC.out j hjr).2.below HB7.out
          rw [List.getD_eq_getElem?_getD, List.getElem?_append_left (by rw [HVL.out]; exact hjr), List.getD_eq_getElem?_getD, List.getElem?_append_left hjr, ← List.getD_eq_getElem?_getD, ← List.getD_eq_getElem?_getD]
          exact h1
        · rw [List.getD_eq_getElem?_getD, List.getElem?_append_right (by rw [HVL.out]; omega), HVL.out, List.getD_eq_getElem?_getD, List.getElem?_append_right (by omega)]
          simp at hj
          have ht : j - rs.length = 0 ∨ j - rs.length = 1 := by omega
          rcases ht with ht | ht <;> rw [ht] <;> exact row_nil _) (by omega)
      have HG4 := Lib.hid hG4
      clear hown hgrow4 hG4
      go_wp2_with fail
      refine (CV.out _ _ _ HG4.out (HI.out.below HB7.out)).mono ?_
      rintro e w8 ⟨rfl, hU8⟩
      have HB8 := Lib.hid (HW.out.trans ((HB7.out.trans (hU8.below.mono HB7.out.size)).mono HW.out.size))
      clear hU8
      go_wp2_with ((go_at_call 11; refine (alive_any _).mono ?_; rintro e w' ⟨rfl, rfl⟩))
      go_ret
      exact ⟨rfl, up_of_below HB8.out⟩
    · obtain ⟨h, hh⟩ : ∃ h, h = m / 2 := ⟨_, rfl⟩
      have e1 : (m : Int).tdiv 2 = (h : Int) := by rw [hh, Int.tdiv_eq_ediv_of_nonneg (by omega)]; simp
      have hhm : h ≤ m := by omega
      clear hh
      have hl1 : (h : Int) ≤ (c1 : Int) := by omega
      have e2 : IntKind.i64.wrap (h : Int) = h := IntWalk.i64_in _ (by omega)
      have CH := Lib.hid (fun W (hg : Grid W (some ⟨g, 0, none⟩) rs) (hf : Ints W fa fs) => by
        have hh := valid_any (some ⟨g, 0, none⟩) fa h c1 k fc (rs.take (h * 2)) fs W (by have := HZ.out; rw [List.length_take]; omega) (hg.take _) (fun i => by
          have := HR.out i
          by_cases hi : i < h * 2
          · rw [List.getD_eq_getElem?_getD, List.getElem?_take_of_lt hi, ← List.getD_eq_getElem?_getD]; exact this
          · rw [List.getD_eq_getElem?_getD, List.getElem?_eq_none (by rw [List.length_take]; omega)]; simp) (by omega) HF.out.symm hf (by omega)
        rwa [claims_half hp hhm] at hh)
      clear hp
      go_wp2_with fail
      refine (CH.out _ HG.out HI.out).mono ?_
      rintro e w3 ⟨rfl, hU⟩
      have HVC := Lib.hid (fun j (hj : j < rs.length) => (show w3.cell? ⟨g, j, none⟩ = some (vs.getD j undef) ∧ RowV w3 (vs.getD j undef) (rs.getD j []) from ⟨(hU.below.cell (p := ⟨g, j, none⟩) (World.block_lt_of_cell? _ _ (HVC.out j hj).1)).trans (HVC.out j hj).1, (HVC.out j hj).2.below hU.below⟩))
      have HI := Lib.hid (HI.out.below hU.below)
      have HW := Lib.hid (HW.out.trans (hU.below.mono HW.out.size))
      clear hU CH HG
      have hB := HW.out.size
      go_wp2_with (first | (at_builtin; refine wpList_appCg _ _ rfl rfl w3.heap.size _ 0 [] rfl (World.ownsRow_lit w3 #[] 0 (Nat.le_refl _) (Nat.zero_le _) (by simp)) g m c1 vs rfl ?_ ?_ (by rw [HVL.out, HZ.out]) (by omega) (by simp) ?_; (case refine_1 => exact fun j hj => ((((Below.refl _ _).alloc (Nat.le_refl _) _).cell (p := ⟨g, j, none⟩) (World.block_lt_of_cell? _ _ (HVC.out j (by rw [HZ.out]; exact hj)).1)).trans (HVC.out j (by rw [HZ.out]; exact hj)).1)); (case refine_2 => intro j hj; obtain ⟨x, c, e, _⟩ := (HVC.out j (by rw [HZ.out]; exact hj)).2; exact ⟨x, _, c, e⟩); intro v1 w6 hown hgrow; rw [Nat.zero_add, List.nil_append] at hown; have hB3 : w3.heap.size ≤ w6.heap.size := (by have := hgrow.size; simp at this; omega); have HO3 := Lib.hid hown; have HG3 := Lib.hid hgrow; clear hown hgrow) | (at_builtin; refine wpList_appCg _ _ rfl rfl w3.heap.size _ m vs rfl (World.ownsRow.alloc HO3.out _) _ 1 1 [.slice none 0 0, .slice none 0 0] rfl ?_ ?_ rfl (by omega) (by simp; omega) ?_; (case refine_1 => intro j hj; match j, hj with | 0, _ => exact cell_new' (by simp) rfl | 1, _ => exact cell_new' (by simp) rfl); (case refine_2 => intro j hj; match j, hj with | 0, _ => exact ⟨_, _, _, rfl⟩ | 1, _ => exact ⟨_, _, _, rfl⟩); intro v4 w7 hown hgrow4))
      have HB6 := Lib.hid (((Below.refl w3.heap.size w3).alloc (Nat.le_refl _) _).grown HG3.out (by simp) (fun g hg => ((CR.made w3 w3.heap.size (Nat.le_refl _)).row.lt g hg).1))
      have HB7 := Lib.hid ((HB6.out.alloc HB6.out.size _).grown hgrow4 (by simp; omega) (fun g hg => by have := (World.ownsRow.lt HO3.out g hg).1; omega))
      obtain ⟨g4, cap4, rfl, hg41, hg42, hG4⟩ := grid_of (rs := rs ++ [[], []]) hown (by have := HZ.out; simp; omega) (fun j hj => by
        by_cases hjr : j < rs.length
        · have h1 := (HVC.out j hjr).2.below HB7.out
          rw [List.getD_eq_getElem?_getD, List.getElem?_append_left (by rw [HVL.out]; exact hjr), List.getD_eq_getElem?_getD, List.getElem?_append_left hjr, ← List.getD_eq_getElem?_getD, ← List.getD_eq_getElem?_getD]
          exact h1
        · rw [List.getD_eq_getElem?_getD, List.getElem?_append_right (by rw [HVL.out]; omega), HVL.out, List.getD_eq_getElem?_getD, List.getElem?_append_right (by omega)]
          simp at hj
          have ht : j - rs.length = 0 ∨ j - rs.length = 1 := by omega
          rcases ht with ht | ht <;> rw [ht] <;> exact row_nil _) (by omega)
      have HG4 := Lib.hid hG4
      clear hown hgrow4 hG4
      go_wp2_with fail
      refine (CV.out _ _ _ HG4.out (HI.out.below HB7.out)).mono ?_
      rintro e w8 ⟨rfl, hU8⟩
      have HB8 := Lib.hid (HW.out.trans ((HB7.out.trans (hU8.below.mono HB7.out.size)).mono HW.out.size))
      clear hU8
      go_wp2_with ((go_at_call 11; refine (alive_any _).mono ?_; rintro e w' ⟨rfl, rfl⟩))
      go_ret
      exact ⟨rfl, up_of_below HB8.out⟩
  · go_enter Try.func5, Try.ntmps5
    go_wp2
    go_ret
    exact ⟨rfl, up_of_below (Below.refl _ _)⟩

end Go.Proofs.Ytlahgikhndjfoaa
