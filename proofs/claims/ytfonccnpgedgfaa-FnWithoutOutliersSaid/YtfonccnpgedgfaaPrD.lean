/-
  The contract of the function that draws pairs. Conditions: those that the theorem states.
-/
import Derived.Test.YtfonccnpgedgfaaApp
import Derived.Test.YtfonccnpgedgfaaPrP
import Derived.Test.YtfonccnpgedgfaaOdd
import Derived.Test.YtfonccnpgedgfaaReg
namespace Go.Proofs.Ytfonccnpgedgfaa
open Go.RowKit

/-- Drawn pairs. -/
def PrD (n : Nat) (zs : List Int) : Prop := n ≤ 21 ∧ ∀ j, j < n → (-50 ≤ pX zs j ∧ pX zs j ≤ 1001) ∧ -170 ≤ pY zs j ∧ pY zs j ≤ 190
def DrewPairs (w : World) (b : Nat) (p k : Int) (e : Ending) (w' : World) : Prop :=
  ∃ (n : Nat) (zs : List Int) (a : Option Addr) (c : Nat), PrD n zs ∧ e = .returned (.slice a n c) ∧ OwnG 32 2 w' w.heap.size (.slice a n c) n zs ∧ Gone w b p k w'
theorem pX_old {zs : List Int} {x y : Int} {n j : Nat} (hl : zs.length = n * 2) (hj : j < n) : pX (zs ++ [x, y]) j = pX zs j ∧ pY (zs ++ [x, y]) j = pY zs j := by
  constructor
  · unfold pX; rw [List.getD_eq_getElem?_getD, List.getElem?_append_left (by omega), ← List.getD_eq_getElem?_getD]
  · unfold pY; rw [List.getD_eq_getElem?_getD, List.getElem?_append_left (by omega), ← List.getD_eq_getElem?_getD]
theorem pX_new {zs : List Int} {x y : Int} {n : Nat} (hl : zs.length = n * 2) : pX (zs ++ [x, y]) n = x ∧ pY (zs ++ [x, y]) n = y := by
  constructor
  · unfold pX; rw [List.getD_eq_getElem?_getD, List.getElem?_append_right (by omega), show n * 2 - zs.length = 0 by omega]; rfl
  · unfold pY; rw [List.getD_eq_getElem?_getD, List.getElem?_append_right (by omega), show n * 2 + 1 - zs.length = 1 by omega]; rfl
theorem PrD.snoc {zs : List Int} {n : Nat} {x y : Int} (h : PrD n zs) (hl : zs.length = n * 2) (hn : n ≤ 20) (x1 : -50 ≤ x) (x2 : x ≤ 1001) (y1 : -170 ≤ y) (y2 : y ≤ 190) : PrD (n + 1) (zs ++ [x, y]) := by
  refine ⟨by omega, fun j hj => ?_⟩
  by_cases e : j = n
  · subst e
    rw [(pX_new hl).1, (pX_new hl).2]
    omega
  · rw [(pX_old hl (by omega)).1, (pX_old hl (by omega)).2]
    exact h.2 j (by omega)
theorem PrD.nil : PrD 0 [] := ⟨by omega, fun j hj => absurd hj (Nat.not_lt_zero _)⟩
theorem PrD.setX {zs : List Int} {n : Nat} (h : PrD n zs) : PrD n (zs.set 0 1001) := by
  refine ⟨h.1, fun j hj => ?_⟩
  have h1 := h.2 j hj
  have e2 : pY (zs.set 0 1001) j = pY zs j := by unfold pY; rw [List.getD_eq_getElem?_getD, List.getElem?_set_ne (by omega), ← List.getD_eq_getElem?_getD]
  rw [e2]
  refine ⟨?_, h1.2⟩
  by_cases e : j = 0
  · subst e
    cases zs with
    | nil => exact h1.1
    | cons u l => show -50 ≤ (1001 : Int) ∧ (1001 : Int) ≤ 1001; omega
  · have e1 : pX (zs.set 0 1001) j = pX zs j := by unfold pX; rw [List.getD_eq_getElem?_getD, List.getElem?_set_ne (by omega), ← List.getD_eq_getElem?_getD]
    rw [e1]; exact h1.1
theorem PrD.zeros : PrD 21 (List.replicate 42 0) := by
  refine ⟨by omega, fun j hj => ?_⟩
  have e1 : pX (List.replicate 42 0) j = 0 := by unfold pX; rw [List.getD_eq_getElem?_getD, List.getElem?_replicate]; split <;> rfl
  have e2 : pY (List.replicate 42 0) j = 0 := by unfold pY; rw [List.getD_eq_getElem?_getD, List.getElem?_replicate]; split <;> rfl
  rw [e1, e2]; omega
theorem OwnG.set {T : TypeId} {k : Nat} {w : World} {B g m c n : Nat} {zs : List Int} (h : OwnG T k w B (.slice (some ⟨g, 0, none⟩) m c) n zs) (j : Nat) (u : Int) :
    OwnG T k (w.setCell ⟨g, j, none⟩ (.int .i64 u)) B (.slice (some ⟨g, 0, none⟩) m c) n (zs.set j u) ∧ w.grownBy (w.setCell ⟨g, j, none⟩ (.int .i64 u)) (some g) := by
  obtain rfl := h.ints.1
  have := World.ownsRow.stored h j (.int .i64 u)
  refine ⟨?_, this.2⟩
  unfold OwnG
  rw [List.map_set]
  exact this.1
theorem OwnG.head {T : TypeId} {k : Nat} {w : World} {B : Nat} {v : Value} {n : Nat} {zs : List Int} (h : OwnG T k w B v n zs) (hn : 0 < n) : ∃ g cap, v = .slice (some ⟨g, 0, none⟩) n cap ∧ B ≤ g ∧ g < w.heap.size := by
  rcases h.2 with ⟨rfl, h0⟩ | ⟨g, cap, cur, rfl, hb, hg, hn', hc, hs, ht⟩
  · omega
  · exact ⟨g, cap, rfl, hb, (Array.getElem?_eq_some_iff.1 hg).1⟩
/-- The reader's place is set anew. -/
theorem Rd.near {w : World} {b : Nat} {a : Option Addr} {n c : Nat} {p q : Int} {W : World} (h : Rd w b a n c p) (hb : Below w.heap.size (w.setCell ⟨b, 1, none⟩ (.int .i64 q)) W) : Rd W b a n c q := by
  have h1 := h.set q
  exact h1.blocks (fun k hk => hb.block k (by simpa using hk))

theorem Rd.near' {w : World} {b : Nat} {a : Option Addr} {n c : Nat} {p q : Int} {W : World} (h : Rd w b a n c p) (hb : Below w.heap.size (w.setCell ⟨b, 1, none⟩ (.int .i64 q)) W) : Rd W b a n c q := h.near hb
theorem gone' {w w' : World} {b : Nat} {p k : Int} (p' : Int) (h1 : p ≤ p') (h2 : p' ≤ p + k) (h : Below w.heap.size (w.setCell ⟨b, 1, none⟩ (.int .i64 p')) w') : Gone w b p k w' := gone p' h1 h2 (by rw [World.size_setCell]; exact h)
theorem bdrw {B : Nat} {w W : World} (h : Below B w W) (d : Nat) : Below B w (drw W d) := ⟨h.os, h.tape, h.output, h.size, h.block⟩
theorem below_reset' {w W0 : World} {b : Nat} {q0 : Value} (h : Below w.heap.size (w.setCell ⟨b, 1, none⟩ q0) W0) (q : Value) : Below w.heap.size (w.setCell ⟨b, 1, none⟩ q) (W0.setCell ⟨b, 1, none⟩ q) := below_reset h

set_option maxHeartbeats 4000000 in
theorem l20Pairs_any (b : Nat) (a : Option Addr) (n c : Nat) (p m : Int) (w : World) (hr : Rd w b a n c p) (hp : 0 ≤ p) (hp1 : p ≤ 800000) (hm : 0 ≤ m) (hm1 : m ≤ 1000000) :
    Calls Try.prog 41 #[.pointer (some ⟨b, 0, none⟩), .int .i64 m] w (DrewPairs w b p 40) := by
  have hlt := hr.lt
  have hle := Nat.le_of_lt hlt
  have h1 := hr.at_
  have HR := Lib.hid hr
  go_enter Try.func41, Try.ntmps41
  go_wp2_with (first | (go_at_call 45; apply Calls.mono; (focus (with_reducible apply pick_any (m := 40); (focus (repeat (first | with_reducible exact hr | (with_reducible apply Rd.base_at hs1 hB1; simp; done) | with_reducible apply Rd.plus | with_reducible apply Rd.drew | with_reducible apply Rd.drewN | with_reducible apply Rd.drw | with_reducible apply Rd.alloc | with_reducible apply Rd.set))); all_goals omega)); rintro e w1 ⟨x1, d, hx10, hx11, rfl, rfl⟩; have := IntWalk.i64_in (x1 - 20) (by omega)) | (go_at_call 45; apply Calls.mono; (focus (with_reducible apply pick_any (m := 20); (focus (repeat (first | with_reducible exact hr | (with_reducible apply Rd.base_at hs1 hB1; simp; done) | with_reducible apply Rd.plus | with_reducible apply Rd.drew | with_reducible apply Rd.drewN | with_reducible apply Rd.drw | with_reducible apply Rd.alloc | with_reducible apply Rd.set))); all_goals omega)); rintro e w1 ⟨x2, d, hx20, hx21, rfl, rfl⟩; have := IntWalk.i64_in (1 + x2) (by omega)) | (go_at_call 45; apply Calls.mono; (focus (with_reducible apply pick_any (m := 3); (focus (repeat (first | with_reducible exact hr | (with_reducible apply Rd.base_at hs1 hB1; simp; done) | with_reducible apply Rd.plus | with_reducible apply Rd.drew | with_reducible apply Rd.drewN | with_reducible apply Rd.drw | with_reducible apply Rd.alloc | with_reducible apply Rd.set))); all_goals omega)); rintro e w1 ⟨x3, d, hx30, hx31, rfl, rfl⟩; have := IntWalk.i64_in (1 + x3) (by omega)) | (go_at_call 45; apply Calls.mono; (focus (with_reducible apply pick_any (m := 8); (focus (repeat (first | with_reducible exact hr | (with_reducible apply Rd.base_at hs1 hB1; simp; done) | with_reducible apply Rd.plus | with_reducible apply Rd.drew | with_reducible apply Rd.drewN | with_reducible apply Rd.drw | with_reducible apply Rd.alloc | with_reducible apply Rd.set))); all_goals omega)); rintro e w1 ⟨x4, d, hx40, hx41, rfl, rfl⟩; have := IntWalk.i64_in (1 + x4) (by omega)))
  obtain ⟨K, hK⟩ : ∃ K : Nat, (K : Int) = 1 + x4 := ⟨(1 + x4).toNat, by omega⟩
  rw [← hK]
  have hK1 : 1 ≤ K ∧ K ≤ 8 := by omega
  obtain ⟨hK1, hK2⟩ := hK1
  have hsl : ∀ x : Int, -50 ≤ x → x ≤ 49 → -150 ≤ (1 + x3) * x ∧ (1 + x3) * x ≤ 150 := by
    intro x u1 u2
    have : x3 = 0 ∨ x3 = 1 ∨ x3 = 2 := by omega
    rcases this with rfl | rfl | rfl <;> omega
  have HSL := Lib.hid hsl
  generalize hs : 1 + x3 = sl at HSL ⊢
  generalize ho : x1 - 20 = o
  have ho1 : -20 ≤ o := by omega
  have ho2 : o ≤ 19 := by omega
  generalize hno : 1 + x2 = no
  have hno1 : 1 ≤ no := by omega
  have hno2 : no ≤ 20 := by omega
  clear hs ho hno hsl hK h1 hx10 hx11 hx20 hx21 hx30 hx31 hx40 hx41
  go_loopw [5, 9] (fun v' kv wr => ∃ (k cnt : Nat) (zs : List Int) (q : Int), kv = .int .i64 k ∧ k + cnt = K ∧ p ≤ q ∧ q ≤ p + 4 + 2 * cnt ∧ Hid (PrD cnt zs) ∧ Hid (OwnG 32 2 wr w.heap.size v' cnt zs) ∧ Hid (Below w.heap.size (w.setCell ⟨b, 1, none⟩ (.int .i64 q)) wr)) (fun _ kv _ => (intOf kv).toNat)
  case atStart =>
    refine ⟨K, 0, [], p + 1 + 1 + 1 + 1, rfl, by omega, by omega, by omega, PrD.nil, ?_, ?_⟩
    · show OwnG _ _ _ _ _ _ _
      have := OwnG.made 32 2 (w.setCell ⟨b, 1, none⟩ (.int .i64 (p + 1 + 1 + 1 + 1))) w.heap.size (by simp)
      rw [World.size_setCell] at this
      exact this.drw _
    · show Below _ _ _
      exact bdrw ((Below.refl _ _).alloc (by simp) _) _
  case round =>
    obtain ⟨k, cnt, zs, q, rfl, hkc, hq0, hq1, HP, HO, HB⟩ := hrel
    have hr : Rd wr b a n c q := HR.out.near' HB.out
    have hBw : w.heap.size ≤ wr.heap.size := by have := HB.out.size; simpa using this
    have hlt' : b < wr.heap.size := by omega
    have hle' := Nat.le_of_lt hlt'
    have h1 := hr.at_
    by_cases hk : 0 < k
    · obtain ⟨k, rfl⟩ : ∃ k', k = k' + 1 := ⟨k - 1, by omega⟩
      have hk' : (0 : Int) < ((k + 1 : Nat) : Int) := by omega
      go_wp2_with (first | (go_at_call 45; apply Calls.mono; (focus (with_reducible apply pick_any (m := 100); (focus (repeat (first | with_reducible exact hr | (with_reducible apply Rd.base_at hs1 hB1; simp; done) | with_reducible apply Rd.plus | with_reducible apply Rd.drew | with_reducible apply Rd.drewN | with_reducible apply Rd.drw | with_reducible apply Rd.alloc | with_reducible apply Rd.set))); all_goals omega)); rintro e w1 ⟨y1, d, hy10, hy11, rfl, rfl⟩; have := IntWalk.i64_in (y1 - 50) (by omega);obtain ⟨g1, g2⟩ := HSL.out (y1 - 50) (by omega) (by omega);have wa := IntWalk.i64_in (sl * (y1 - 50)) (by omega);have wb := IntWalk.i64_in (sl * (y1 - 50) + o) (by omega)) | (go_at_call 45; apply Calls.mono; (focus (with_reducible apply pick_any (m := no); (focus (repeat (first | with_reducible exact hr | (with_reducible apply Rd.base_at hs1 hB1; simp; done) | with_reducible apply Rd.plus | with_reducible apply Rd.drew | with_reducible apply Rd.drewN | with_reducible apply Rd.drw | with_reducible apply Rd.alloc | with_reducible apply Rd.set))); all_goals omega)); rintro e w1 ⟨y2, d, hy20, hy21, rfl, rfl⟩; have wc := IntWalk.i64_in (sl * (y1 - 50) + o + y2) (by omega)) | (at_builtin; refine wpList_app2 rfl _ _ rfl w.heap.size _ cnt zs rfl (((HO.out.setb hlt _).alloc _).drw _) _ 0 (y1 - 50) (sl * (y1 - 50) + o + y2) rfl (by rw [drw_cell]; exact cell_new' (by simp) rfl) (by rw [drw_cell]; exact cell_new' (by simp) rfl) (by omega) (by simp [drw_heap]; omega) ?_; intro v1 w1 hown hgrow))
      have HO1 := Lib.hid hown
      have HG1 := Lib.hid hgrow
      have HP1 := Lib.hid (HP.out.snoc HO.out.len (by omega) (show -50 ≤ y1 - 50 by omega) (show y1 - 50 ≤ 1001 by omega) (show -170 ≤ sl * (y1 - 50) + o + y2 by omega) (show sl * (y1 - 50) + o + y2 ≤ 190 by omega))
      clear hown hgrow
      go_wp2
      go_roundw
      case rel =>
        refine ⟨k, cnt + 1, _, q + 1 + 1, by go_num, by omega, by omega, by omega, HP1.out, HO1.out, ?_⟩
        show Below _ _ _
        exact (bdrw ((below_reset' HB.out _).alloc (by simp; omega) _) _).grown HG1.out (by first | (simp [drw_heap]; done) | (simp [drw_heap]; omega)) (fun g hg => (HO.out.lt g hg).1)
      case measure => simp [intOf]
    · obtain rfl : k = 0 := by omega
      have hk' : ¬ (0 : Int) < ((0 : Nat) : Int) := by omega
      obtain ⟨g, cap, rfl, hg1, hg2⟩ := HO.out.head (by omega)
      have c0 := HO.out.cell (j := 0) (by rw [HO.out.len]; omega)
      have f0 := HO.out.free 0
      have hgb : g ≠ b := by omega
      obtain ⟨i0, hi0, hz0, hz1, hz2⟩ := info_parts infoE
      go_wp2_with (first | (go_at_call 49; apply Calls.mono; (focus (apply odd_any; (focus (repeat (first | with_reducible exact hr | (with_reducible apply Rd.base_at hs1 hB1; simp; done) | with_reducible apply Rd.plus | with_reducible apply Rd.drew | with_reducible apply Rd.drewN | with_reducible apply Rd.drw | with_reducible apply Rd.alloc | with_reducible apply Rd.set))); all_goals omega)); rintro e w1 ⟨t, p', d, hp0, hp1, rfl, rfl⟩; cases t) | (go_at_call 45; apply Calls.mono; (focus (with_reducible apply pick3_any; (focus (repeat (first | with_reducible exact hr | (with_reducible apply Rd.base_at hs1 hB1; simp; done) | with_reducible apply Rd.plus | with_reducible apply Rd.drew | with_reducible apply Rd.drewN | with_reducible apply Rd.drw | with_reducible apply Rd.alloc | with_reducible apply Rd.set))); all_goals omega)); rintro e w1 ⟨x, d, rfl | rfl | rfl, rfl, rfl⟩) | (at_make; refine wpList_make_full _ rfl _ _ 25 rfl w.heap.size 32 i0 _ 2 Try.underlying25 hi0 hz0 hz1 .i64 .i64 21 21 21 rfl rfl rfl rfl (by rw [hz2]; decide) (by decide) (by simp [drw_heap]; omega) ?_; intro w1 hown hgrow))
      · go_ret
        exact ⟨cnt, zs, _, _, HP.out, rfl, (HO.out.setb hlt _).drw _, gone' p' (by omega) (by omega) (bdrw (below_reset' HB.out _) _)⟩
      · go_ret
        refine ⟨0, [], _, _, PrD.nil, rfl, ?_, gone' (p' + 1) (by omega) (by omega) (bdrw ((below_reset' HB.out _).alloc (by simp; omega) _) _)⟩
        have := OwnG.made 32 2 (wr.setCell ⟨b, 1, none⟩ (.int .i64 (p' + 1))) w.heap.size (by simp; omega)
        rw [World.size_setCell] at this
        exact this.drw _
      · go_ret
        exact ⟨cnt, zs.set 0 1001, _, _, HP.out.setX, rfl, ((HO.out.setb hlt _).set 0 1001).1.drw _, gone' (p' + 1) (by omega) (by omega) (bdrw ((below_reset' HB.out _).setCell (p := ⟨g, 0, none⟩) hg1 _) _)⟩
      · go_ret
        refine ⟨21, List.replicate 42 0, _, _, PrD.zeros, rfl, ?_, gone' (p' + 1) (by omega) (by omega) ((bdrw (below_reset' HB.out _) _).grown hgrow (by simp [drw_heap]; omega) (by simp))⟩
        unfold OwnG
        rw [← made_zero 21]
        simp only [drw_heap, World.size_setCell] at hown
        exact hown

end Go.Proofs.Ytfonccnpgedgfaa
