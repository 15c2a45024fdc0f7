/-
  The contracts of the functions that draw points and zones. Conditions: those that each theorem states.
-/
import Derived.Test.YtfdpdhinigfpfaaLz
import Derived.Test.YtfdpdhinigfpfaaOdd
namespace Go.Proofs.Ytfdpdhinigfpfaa
open Go.RowKit

theorem OwnG.set {T : TypeId} {k : Nat} {w : World} {B g m c n : Nat} {zs : List Int} (h : OwnG T k w B (.slice (some ⟨g, 0, none⟩) m c) n zs) (j : Nat) (u : Int) :
    OwnG T k (w.setCell ⟨g, j, none⟩ (.int .i64 u)) B (.slice (some ⟨g, 0, none⟩) m c) n (zs.set j u) ∧ w.grownBy (w.setCell ⟨g, j, none⟩ (.int .i64 u)) (some g) := by
  obtain rfl := h.ints.1
  have := World.ownsRow.stored h j (.int .i64 u)
  refine ⟨?_, this.2⟩
  unfold OwnG
  rw [List.map_set]
  exact this.1
theorem OwnG.head {T : TypeId} {k : Nat} {w : World} {B : Nat} {v : Value} {n : Nat} {zs : List Int} (h : OwnG T k w B v n zs) (hn : 0 < n) : ∃ g cap, v = .slice (some ⟨g, 0, none⟩) n cap ∧ B ≤ g ∧ g < w.heap.size := by
  rcases h.2 with ⟨rfl, h0⟩ | ⟨g, cap, cur, rfl, hb, hg, hn', hc, hs, ht⟩
  · omega
  · exact ⟨g, cap, rfl, hb, (Array.getElem?_eq_some_iff.1 hg).1⟩
theorem Rd.near' {w : World} {b : Nat} {a : Option Addr} {n c : Nat} {p q : Int} {W : World} (h : Rd w b a n c p) (hb : Below w.heap.size (w.setCell ⟨b, 1, none⟩ (.int .i64 q)) W) : Rd W b a n c q :=
  (h.set q).blocks (fun k hk => hb.block k (by simpa using hk))
theorem gone' {w w' : World} {b : Nat} {p k : Int} (p' : Int) (h1 : p ≤ p') (h2 : p' ≤ p + k) (h : Below w.heap.size (w.setCell ⟨b, 1, none⟩ (.int .i64 p')) w') : Gone w b p k w' := gone p' h1 h2 (by rw [World.size_setCell]; exact h)
theorem bdrw {B : Nat} {w W : World} (h : Below B w W) (d : Nat) : Below B w (drw W d) := ⟨h.os, h.tape, h.output, h.size, h.block⟩
theorem set_congr {w v : World} {b i : Nat} {u : Value} (h : w.heap[b]? = v.heap[b]?) : (w.setCell ⟨b, i, none⟩ u).heap[b]? = (v.setCell ⟨b, i, none⟩ u).heap[b]? := by
  simp [World.setCell, Array.getElem?_modify, h]
theorem below_reset {w W0 : World} {b : Nat} {q0 q : Value} (h : Below w.heap.size (w.setCell ⟨b, 1, none⟩ q0) W0) : Below w.heap.size (w.setCell ⟨b, 1, none⟩ q) (W0.setCell ⟨b, 1, none⟩ q) := by
  refine ⟨h.os, h.tape, h.output, by simpa using h.size, fun k hk => ?_⟩
  by_cases hkb : k = b
  · subst hkb
    rw [set_congr (h.block k hk), setCell_again]
  · rw [Below.heap_setCell _ ⟨b, 1, none⟩ _ _ hkb, Below.heap_setCell _ ⟨b, 1, none⟩ _ _ hkb, h.block k hk]
    exact Below.heap_setCell _ ⟨b, 1, none⟩ _ _ hkb
theorem below_reset' {w W0 : World} {b : Nat} {q0 : Value} (h : Below w.heap.size (w.setCell ⟨b, 1, none⟩ q0) W0) (q : Value) : Below w.heap.size (w.setCell ⟨b, 1, none⟩ q) (W0.setCell ⟨b, 1, none⟩ q) := below_reset h

theorem cell_new' {w : World} {cs : Array Value} {e : TypeId} {k i : Nat} {v : Value} (hk : k = w.heap.size) (hv : cs[i]? = some v) : (w.alloc (.cells cs e)).cell? ⟨k, i, none⟩ = some v := by
  subst hk
  exact (World.cell?_alloc_new w cs e i).trans hv
theorem wpList_wanted {ops : Array Oper} {rest : List Oper} {o : Oper} {a : Act} {w : World} {Q : Exit → Act → World → Prop} (hg : Region.wanted o (yielded ops a.tmps) = true)
    (h : ∀ K : Act → World → Prop, (∀ a w, wpList Try.prog ops Q rest a w → K a w) → o.wp Try.prog a w K Q) : wpList Try.prog ops Q (o :: rest) a w :=
  wpList_step fun K hK => by rw [if_pos hg]; exact h K hK
/-- append(list, zone). -/
theorem wpList_app4 {ops : Array Oper} {rest : List Oper} {o : Oper} {a : Act} {w : World} {Q : Exit → Act → World → Prop} (s x : Operand)
    (ho : o.op = .call { callee := .builtin .append, args := #[s, x], argTypes := #[32, 32] }) (hgd : Region.wanted o (yielded ops a.tmps) = true) (B : Nat) (v : Value) (n : Nat) (zs : List Int) (hs : a.eval s = v) (hown : OwnG 38 4 w B v n zs) (b i : Nat) (y0 y1 y2 y3 : Int)
    (hx : a.eval x = .slice (some ⟨b, i, none⟩) 1 1) (hy0 : w.cell? ⟨b, i, none⟩ = some (.int .i64 y0)) (hy1 : w.cell? ⟨b, i + 1, none⟩ = some (.int .i64 y1)) (hy2 : w.cell? ⟨b, i + 2, none⟩ = some (.int .i64 y2)) (hy3 : w.cell? ⟨b, i + 3, none⟩ = some (.int .i64 y3)) (hlen : n ≤ 1000000000) (hB : B ≤ w.heap.size)
    (h : ∀ v' w', OwnG 38 4 w' B v' (n + 1) (zs ++ [y0, y1, y2, y3]) → w.grownBy w' v.ownBlock → wpList Try.prog ops Q rest (a.put o.dst v') w') : wpList Try.prog ops Q (o :: rest) a w := by
  obtain ⟨i0, hi, hz0, hz1, hz2⟩ := info_parts infoZ
  refine wpList_wanted hgd fun K hK => wp_append_own _ s x 32 ho B 38 i0 _ 4 32 Try.underlying32 hi hz0 hz1 hz2 rfl (by decide) v n _ hs hown ⟨b, i, none⟩ 1 1 [.int .i64 y0, .int .i64 y1, .int .i64 y2, .int .i64 y3] hx rfl ?_ ?_ ?_ ?_ hB ?_
  · intro j u hj
    match j, hj with
    | 0, hj => simp at hj; subst hj; simpa [Addr.add] using hy0
    | 1, hj => simp at hj; subst hj; simpa [Addr.add] using hy1
    | 2, hj => simp at hj; subst hj; simpa [Addr.add] using hy2
    | 3, hj => simp at hj; subst hj; simpa [Addr.add] using hy3
  · intro u hu; simp at hu; rcases hu with rfl | rfl | rfl | rfl <;> rfl
  · unfold maxLen; omega
  · omega
  · intro v' w' h1 h2 _
    refine hK _ _ (h v' w' ?_ h2)
    unfold OwnG
    simpa using h1

/-- A drawn point. -/
def PtD (x y : Int) : Prop := (-10001 ≤ x ∧ x ≤ 10001) ∧ -10001 ≤ y ∧ y ≤ 10001
def DrewPoint (w : World) (b : Nat) (p : Int) (e : Ending) (w' : World) : Prop :=
  ∃ x y, PtD x y ∧ e = .returned (.agg #[.int .i64 x, .int .i64 y]) ∧ Gone w b p 7 w'

set_option maxHeartbeats 1000000 in
theorem l20Point_any (b : Nat) (a : Option Addr) (n c : Nat) (p m : Int) (w : World) (hr : Rd w b a n c p) (hp : 0 ≤ p) (hp1 : p ≤ 900000) (hm : 0 ≤ m) (hm1 : m ≤ 1000000) :
    Calls Try.prog 53 #[.pointer (some ⟨b, 0, none⟩), .int .i64 m] w (DrewPoint w b p) := by
  have hlt := hr.lt
  have hle := Nat.le_of_lt hlt
  have h1 := hr.at_
  go_enter Try.func53, Try.ntmps53
  go_wp2_with (first | (go_at_call 40; apply Calls.mono; (focus (with_reducible apply pick3_any; (focus (repeat (first | with_reducible exact hr | (with_reducible apply Rd.base_at hs1 hB1; simp; done) | with_reducible apply Rd.plus | with_reducible apply Rd.drew | with_reducible apply Rd.drewN | with_reducible apply Rd.drw | with_reducible apply Rd.alloc | with_reducible apply Rd.set))); all_goals omega)); rintro e w1 ⟨x, d, rfl | rfl | rfl, rfl, rfl⟩) | (go_at_call 40; apply Calls.mono; (focus (apply pick_any; (focus (repeat (first | with_reducible exact hr | (with_reducible apply Rd.base_at hs1 hB1; simp; done) | with_reducible apply Rd.plus | with_reducible apply Rd.drew | with_reducible apply Rd.drewN | with_reducible apply Rd.drw | with_reducible apply Rd.alloc | with_reducible apply Rd.set))); all_goals omega)); rintro e w1 ⟨x, d, hx0, hx1, rfl, rfl⟩) | (go_at_call 54; apply Calls.mono; (focus (apply odd_any; (focus (repeat (first | with_reducible exact hr | (with_reducible apply Rd.base_at hs1 hB1; simp; done) | with_reducible apply Rd.plus | with_reducible apply Rd.drew | with_reducible apply Rd.drewN | with_reducible apply Rd.drw | with_reducible apply Rd.alloc | with_reducible apply Rd.set))); all_goals omega)); rintro e w1 ⟨t, p', d, hp0, hp1, rfl, rfl⟩; cases t))
  all_goals
    refine bodyPost_ret (v := .agg #[.int .i64 _, .int .i64 _]) (by simp [results, Try.results53, go_sem] <;> first | exact ⟨rfl, rfl⟩ | exact rfl) rfl ⟨_, _, ?_, rfl, gone ?_ ?_ ?_ ?_⟩
    rotate_left 4
    focus
      repeat (first | with_reducible exact Below.refl _ _ | with_reducible apply below_alloc | with_reducible apply below_drw | with_reducible apply below_drew | with_reducible apply below_drewN | with_reducible apply below_plus | with_reducible apply below_set | (simp; done))
    all_goals (first | omega | (unfold PtD; omega))

def DrewZones (w : World) (b : Nat) (p k : Int) (e : Ending) (w' : World) : Prop :=
  ∃ (n : Nat) (zs : List Int) (g : Nat) (c : Nat), n ≤ 7 ∧ e = .returned (.slice (some ⟨g, 0, none⟩) n c) ∧ OwnG 38 4 w' w.heap.size (.slice (some ⟨g, 0, none⟩) n c) n zs ∧ Gone w b p k w'

set_option maxHeartbeats 2000000 in
theorem l20Zones_any (b : Nat) (a : Option Addr) (n c : Nat) (p m : Int) (w : World) (hr : Rd w b a n c p) (hp : 0 ≤ p) (hp1 : p ≤ 800000) (hm : 0 ≤ m) (hm1 : m ≤ 1000000) :
    Calls Try.prog 44 #[.pointer (some ⟨b, 0, none⟩), .int .i64 m] w (DrewZones w b p 48) := by
  have hlt := hr.lt
  have hle := Nat.le_of_lt hlt
  have h1 := hr.at_
  have HR := Lib.hid hr
  go_enter Try.func44, Try.ntmps44
  go_wp2_with (first | (go_at_call 40; apply Calls.mono; (focus (with_reducible apply pick_any (m := 5); (focus (repeat (first | with_reducible exact hr | (with_reducible apply Rd.base_at hs1 hB1; simp; done) | with_reducible apply Rd.plus | with_reducible apply Rd.drew | with_reducible apply Rd.drewN | with_reducible apply Rd.drw | with_reducible apply Rd.alloc | with_reducible apply Rd.set))); all_goals omega)); rintro e w1 ⟨x4, d, hx40, hx41, rfl, rfl⟩))
  obtain ⟨K, rfl⟩ := Int.eq_ofNat_of_zero_le hx40
  clear h1
  go_loopw [5, 6] (fun v' kv wr => ∃ (k cnt : Nat) (zs : List Int) (q : Int), kv = .int .i64 k ∧ k + cnt = K ∧ p ≤ q ∧ q ≤ p + 1 + 9 * cnt ∧ Hid (OwnG 38 4 wr w.heap.size v' cnt zs) ∧ Hid (cnt = 0 → v' = .slice (some ⟨w.heap.size, 0, none⟩) 0 0) ∧ Hid (Below w.heap.size (w.setCell ⟨b, 1, none⟩ (.int .i64 q)) wr)) (fun _ kv _ => (intOf kv).toNat)
  case atStart =>
    refine ⟨K, 0, [], p + 1, rfl, by omega, by omega, by omega, ?_, fun _ => rfl, ?_⟩
    · show OwnG _ _ _ _ _ _ _
      have := OwnG.made 38 4 (w.setCell ⟨b, 1, none⟩ (.int .i64 (p + 1))) w.heap.size (by simp)
      rw [World.size_setCell] at this
      exact this.drw _
    · show Below _ _ _
      exact bdrw ((Below.refl _ _).alloc (by simp) _) _
  case round =>
    obtain ⟨k, cnt, zs, q, rfl, hkc, hq0, hq1, HO, HN, HB⟩ := hrel
    have hr : Rd wr b a n c q := HR.out.near' HB.out
    have hBw : w.heap.size ≤ wr.heap.size := by have := HB.out.size; simpa using this
    have hlt' : b < wr.heap.size := by omega
    have hle' := Nat.le_of_lt hlt'
    have h1 := hr.at_
    by_cases hk : 0 < k
    · obtain ⟨k, rfl⟩ : ∃ k', k = k' + 1 := ⟨k - 1, by omega⟩
      have hk' : (0 : Int) < ((k + 1 : Nat) : Int) := by omega
      go_wp2_with fail
      refine (l20Point_any b a n c q 0 wr hr (by omega) (by omega) (by omega) (by omega)).mono ?_
      rintro e w1 ⟨x, y, hxy, rfl, q1, hq2, hq3, os, d, rfl⟩
      have hr1 := (hr.set q1).plus os d
      have HO1 := Lib.hid ((HO.out.setb hlt (.int .i64 q1) (i := 1)).plus os d)
      have HB1 := Lib.hid ((below_reset' HB.out (.int .i64 q1)).trans ((below_plus (Below.refl (wr.setCell ⟨b, 1, none⟩ (.int .i64 q1)).heap.size (wr.setCell ⟨b, 1, none⟩ (.int .i64 q1))) os d).mono (by simp; omega)))
      have hB1 : w.heap.size ≤ (plus (wr.setCell ⟨b, 1, none⟩ (.int .i64 q1)) os d).heap.size := by have := HB1.out.size; simpa using this
      clear hr h1 hlt' hle' hBw hxy
      generalize plus (wr.setCell ⟨b, 1, none⟩ (.int .i64 q1)) os d = W1 at hr1 HO1 HB1 hB1 ⊢
      have hr := hr1
      clear hr1
      have h1 := hr.at_
      have hlt' : b < W1.heap.size := by omega
      have hle' := Nat.le_of_lt hlt'
      go_wp2_with (first | (go_at_call 40; apply Calls.mono; (focus (with_reducible apply pick_any (m := 60); (focus (repeat (first | with_reducible exact hr | (with_reducible apply Rd.base_at hs1 hB1; simp; done) | with_reducible apply Rd.plus | with_reducible apply Rd.drew | with_reducible apply Rd.drewN | with_reducible apply Rd.drw | with_reducible apply Rd.alloc | with_reducible apply Rd.set))); all_goals omega)); rintro e w1 ⟨y1, d, hy10, hy11, rfl, rfl⟩) | (go_at_call 40; apply Calls.mono; (focus (with_reducible apply pick_any (m := 60); (focus (repeat (first | with_reducible exact hr | (with_reducible apply Rd.base_at hs1 hB1; simp; done) | with_reducible apply Rd.plus | with_reducible apply Rd.drew | with_reducible apply Rd.drewN | with_reducible apply Rd.drw | with_reducible apply Rd.alloc | with_reducible apply Rd.set))); all_goals omega)); rintro e w1 ⟨y2, d, hy20, hy21, rfl, rfl⟩) | (at_builtin; refine wpList_app4 _ _ rfl rfl w.heap.size _ cnt zs rfl ((((HO1.out.setb hlt _).drw _).alloc _)) _ 0 x y _ _ rfl (cell_new' (by simp [drw_heap]) rfl) (cell_new' (by simp [drw_heap]) rfl) (cell_new' (by simp [drw_heap]) rfl) (cell_new' (by simp [drw_heap]) rfl) (by omega) (by simp [drw_heap]; omega) ?_; intro v1 w1 hown hgrow))
      have HO2 := Lib.hid hown
      have HG2 := Lib.hid hgrow
      clear hown hgrow
      go_wp2
      go_roundw
      case rel =>
        refine ⟨k, cnt + 1, _, q1 + 1 + 1, by go_num, by omega, by omega, by omega, HO2.out, fun h => by omega, ?_⟩
        show Below _ _ _
        exact (bdrw ((below_reset' HB1.out _).alloc (by first | (simp [drw_heap]; done) | (simp [drw_heap]; omega)) _) _).grown HG2.out (by first | (simp [drw_heap]; done) | (simp [drw_heap]; omega)) (fun g hg => (HO1.out.lt g hg).1)
      case measure => simp [intOf]
    · obtain rfl : k = 0 := by omega
      have hk' : ¬ (0 : Int) < ((0 : Nat) : Int) := by omega
      have hB0 := HB.out
      have hc4 : cnt ≤ 4 := by omega
      by_cases hc0 : cnt = 0
      · subst hc0
        obtain rfl := HN.out rfl
        go_wp2
        go_ret
        exact ⟨0, zs, _, _, by omega, rfl, HO.out, gone' q (by omega) (by omega) hB0⟩
      · have hcp : (0 : Int) < (cnt : Int) := by omega
        obtain ⟨g, cap, rfl, hg1, hg2⟩ := HO.out.head (by omega)
        have hgb : g ≠ b := by omega
        go_wp2_with (first | (go_at_call 54; apply Calls.mono; (focus (apply odd_any; (focus (repeat (first | with_reducible exact hr | (with_reducible apply Rd.base_at hs1 hB1; simp; done) | with_reducible apply Rd.plus | with_reducible apply Rd.drew | with_reducible apply Rd.drewN | with_reducible apply Rd.drw | with_reducible apply Rd.alloc | with_reducible apply Rd.set))); all_goals omega)); rintro e w1 ⟨t, p', d, hp0, hp1, rfl, rfl⟩; cases t))
        · go_ret
          exact ⟨cnt, zs, _, _, by omega, rfl, (HO.out.setb hlt _).drw _, gone' p' (by omega) (by omega) (bdrw (below_reset' hB0 _) _)⟩
        · have cx := HO.out.cell (j := 2) (by rw [HO.out.len]; omega)
          have fx := HO.out.free 2
          have cy := HO.out.cell (j := 3) (by rw [HO.out.len]; omega)
          have fy := HO.out.free 3
          have hcn1 : (0 : Int) < (cnt : Int) := by omega
          obtain ⟨i0, hi0, hz0, hz1, hz2⟩ := info_parts infoZ
          have hm7 := made_zeroZ 7
          go_wp2_with (first | (go_at_call 40; apply Calls.mono; (focus (with_reducible apply pick3_any; (focus (repeat (first | with_reducible exact hr | (with_reducible apply Rd.base_at hs1 hB1; simp; done) | with_reducible apply Rd.plus | with_reducible apply Rd.drew | with_reducible apply Rd.drewN | with_reducible apply Rd.drw | with_reducible apply Rd.alloc | with_reducible apply Rd.set))); all_goals omega)); rintro e w1 ⟨x, d, rfl | rfl | rfl, rfl, rfl⟩) | (at_make; go_loud (refine wpList_make_full _ rfl _ _ 32 rfl w.heap.size 38 i0 _ 4 Try.underlying32 hi0 hz0 hz1 .i64 .i64 7 7 7 rfl rfl rfl rfl (by rw [hz2]; omega) (by unfold maxLen; omega) (by simp [drw_heap]; omega) ?_); intro w1 hown hgrow))
          · go_ret
            exact ⟨cnt, zs.set 2 (-1), _, _, by omega, rfl, ((HO.out.setb hlt _).set 2 (-1)).1.drw _, gone' (p' + 1) (by omega) (by omega) (bdrw ((below_reset' hB0 _).setCell (p := ⟨g, 2, none⟩) hg1 _) _)⟩
          · go_ret
            exact ⟨cnt, zs.set 3 201, _, _, by omega, rfl, ((HO.out.setb hlt _).set 3 201).1.drw _, gone' (p' + 1) (by omega) (by omega) (bdrw ((below_reset' hB0 _).setCell (p := ⟨g, 3, none⟩) hg1 _) _)⟩
          · rw [hm7] at hown
            have HO2 := Lib.hid hown
            have HG2 := Lib.hid hgrow
            clear hown hgrow hm7
            go_wp2
            go_ret
            refine ⟨7, List.replicate (7 * 4) 0, _, _, by omega, rfl, by have := HO2.out; simp only [drw_heap, World.size_setCell] at this; exact this, gone' (p' + 1) (by omega) (by omega) ?_⟩
            exact (bdrw (below_reset' hB0 _) _).grown HG2.out (by simp [drw_heap]; omega) (by simp)

def DrawnZ (w : World) (g n c : Nat) (zs : List Int) (w' : World) : Prop := n ≤ 7 ∧ OwnG 38 4 w' w.heap.size (.slice (some ⟨g, 0, none⟩) n c) n zs ∧ Below w.heap.size w w'
theorem gone_below {w0 w w' : World} {b : Nat} {p k : Int} (h : Below w0.heap.size w0 w) (hb : w0.heap.size ≤ b) (hg : Gone w b p k w') : Below w0.heap.size w0 w' := by
  obtain ⟨p', _, _, os, d, rfl⟩ := hg
  exact below_plus (h.setCell (p := ⟨b, 1, none⟩) hb _) _ _
theorem DrawnZ.short {w w' : World} {g n c : Nat} {v : List Int} (h : DrawnZ w g n c v w') : n ≤ c ∧ c ≤ 9223372036854775807 := by
  obtain ⟨a', c', e, h1, h2, _⟩ := h.2.1.form
  simp only [Value.slice.injEq] at e
  obtain ⟨_, _, rfl⟩ := e
  unfold maxLen at h2
  exact ⟨h1, h2⟩

set_option maxHeartbeats 1000000 in
theorem drawZonesValid_any (a : Option Addr) (n c : Nat) (w : World) (hb : Bytes w w.heap.size a n) (hnc : n ≤ c) (hcm : c ≤ maxLen) :
    Calls Try.prog 20 #[.slice a n c] w fun e w' => ∃ (m : Nat) (zs : List Int) (g c' : Nat), e = .returned (.slice (some ⟨g, 0, none⟩) m c') ∧ DrawnZ w g m c' zs w' := by
  go_enter Try.func20, Try.ntmps20
  go_wp2_with (first | (go_at_call 39; apply Calls.mono; (focus (apply open_any; (focus (apply Bytes.later hb; repeat (first | with_reducible exact Below.refl _ _ | with_reducible apply below_alloc | with_reducible apply below_drw | with_reducible apply below_drew | with_reducible apply below_drewN | with_reducible apply below_plus | with_reducible apply below_set | (simp; done)))); exact hnc; exact hcm)); rintro e w1 ⟨n1, c1, hs1, hB1, rfl, rfl⟩) | (go_at_call 44; apply Calls.mono; (focus (apply l20Zones_any; (focus (repeat (first | with_reducible exact hr | (with_reducible apply Rd.base_at hs1 hB1; simp; done) | with_reducible apply Rd.plus | with_reducible apply Rd.drew | with_reducible apply Rd.drewN | with_reducible apply Rd.drw | with_reducible apply Rd.alloc | with_reducible apply Rd.set))); all_goals omega)); rintro e w1 ⟨m, zs, g, c', hP, rfl, hO, hG⟩))
  go_ret
  exact ⟨m, zs, g, c', rfl, hP, hO.more (by simp), gone_below (below_alloc (Below.refl _ _) _) (by simp) hG⟩

end Go.Proofs.Ytfdpdhinigfpfaa
