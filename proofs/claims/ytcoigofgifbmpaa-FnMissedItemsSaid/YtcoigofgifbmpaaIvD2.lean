/-
  The contract of the function that draws items. Conditions: those that the theorem states.
-/
import Derived.Test.YtcoigofgifbmpaaIvD
import Derived.Test.YtcoigofgifbmpaaApp
namespace Go.Proofs.Ytcoigofgifbmpaa
open Go.RowKit

/-- Drawn items. -/
def ItD (n : Nat) (zs : List Int) : Prop := n ≤ 16 ∧ ∀ j, j < n → (-600 ≤ pX zs j ∧ pX zs j ≤ 10001) ∧ 0 ≤ pY zs j ∧ pY zs j ≤ 101
def DrewItems (w : World) (b : Nat) (p k : Int) (e : Ending) (w' : World) : Prop :=
  ∃ (n : Nat) (zs : List Int) (g : Nat) (c : Nat), ItD n zs ∧ e = .returned (.slice (some ⟨g, 0, none⟩) n c) ∧ OwnG 38 2 w' w.heap.size (.slice (some ⟨g, 0, none⟩) n c) n zs ∧ Gone w b p k w'
theorem at_old {zs us : List Int} {i : Nat} (h : i < zs.length) : (zs ++ us).getD i 0 = zs.getD i 0 := by
  rw [List.getD_eq_getElem?_getD, List.getElem?_append_left h, ← List.getD_eq_getElem?_getD]
theorem at_new {zs us : List Int} {i : Nat} (h : zs.length ≤ i) : (zs ++ us).getD i 0 = us.getD (i - zs.length) 0 := by
  rw [List.getD_eq_getElem?_getD, List.getElem?_append_right h, ← List.getD_eq_getElem?_getD]
/-- One list behind the other. -/
theorem ItD.app {zs us : List Int} {n m : Nat} (h : ItD n zs) (h' : ItD m us) (hl : zs.length = n * 2) (hn : n + m ≤ 16) : ItD (n + m) (zs ++ us) := by
  refine ⟨hn, fun j hj => ?_⟩
  unfold pX pY
  by_cases e : j < n
  · rw [at_old (by omega), at_old (by omega)]
    exact h.2 j e
  · rw [at_new (by omega), at_new (by omega), show j * 2 - zs.length = (j - n) * 2 by omega, show j * 2 + 1 - zs.length = (j - n) * 2 + 1 by omega]
    exact h'.2 (j - n) (by omega)
theorem ItD.one {x y : Int} (x1 : -600 ≤ x) (x2 : x ≤ 10001) (y1 : 0 ≤ y) (y2 : y ≤ 101) : ItD 1 [x, y] := by
  refine ⟨by omega, fun j hj => ?_⟩
  obtain rfl : j = 0 := by omega
  show (-600 ≤ x ∧ x ≤ 10001) ∧ 0 ≤ y ∧ y ≤ 101
  omega
theorem ItD.nil : ItD 0 [] := ⟨by omega, fun j hj => absurd hj (Nat.not_lt_zero _)⟩
theorem set_at {zs : List Int} {i k : Nat} {u : Int} : (zs.set i u).getD k 0 = if i = k ∧ i < zs.length then u else zs.getD k 0 := by
  rw [List.getD_eq_getElem?_getD, List.getElem?_set]
  by_cases h : i = k
  · subst h
    by_cases h1 : i < zs.length
    · simp [h1]
    · simp [h1]
  · simp [h]
theorem ItD.setX {zs : List Int} {n k : Nat} {u : Int} (h : ItD n zs) (h1 : -600 ≤ u) (h2 : u ≤ 10001) : ItD n (zs.set (k * 2) u) := by
  refine ⟨h.1, fun j hj => ?_⟩
  have := h.2 j hj
  unfold pX pY at *
  rw [set_at, set_at, if_neg (show ¬ (k * 2 = j * 2 + 1 ∧ k * 2 < zs.length) by omega)]
  split <;> omega
theorem ItD.setY {zs : List Int} {n k : Nat} {u : Int} (h : ItD n zs) (h1 : 0 ≤ u) (h2 : u ≤ 101) : ItD n (zs.set (k * 2 + 1) u) := by
  refine ⟨h.1, fun j hj => ?_⟩
  have := h.2 j hj
  unfold pX pY at *
  rw [set_at, set_at, if_neg (show ¬ (k * 2 + 1 = j * 2 ∧ k * 2 + 1 < zs.length) by omega)]
  split <;> omega
theorem OwnG.set {T : TypeId} {k : Nat} {w : World} {B g m c n : Nat} {zs : List Int} (h : OwnG T k w B (.slice (some ⟨g, 0, none⟩) m c) n zs) (j : Nat) (u : Int) :
    OwnG T k (w.setCell ⟨g, j, none⟩ (.int .i64 u)) B (.slice (some ⟨g, 0, none⟩) m c) n (zs.set j u) ∧ w.grownBy (w.setCell ⟨g, j, none⟩ (.int .i64 u)) (some g) := by
  obtain rfl := h.ints.1
  have := World.ownsRow.stored h j (.int .i64 u)
  refine ⟨?_, this.2⟩
  unfold OwnG
  rw [List.map_set]
  exact this.1
theorem OwnG.head {T : TypeId} {k : Nat} {w : World} {B : Nat} {v : Value} {n : Nat} {zs : List Int} (h : OwnG T k w B v n zs) (hn : 0 < n) : ∃ g cap, v = .slice (some ⟨g, 0, none⟩) n cap ∧ B ≤ g ∧ g < w.heap.size := by
  rcases h.2 with ⟨rfl, h0⟩ | ⟨g, cap, cur, rfl, hb, hg, hn', hc, hs, ht⟩
  · omega
  · exact ⟨g, cap, rfl, hb, (Array.getElem?_eq_some_iff.1 hg).1⟩
theorem Rd.near' {w : World} {b : Nat} {a : Option Addr} {n c : Nat} {p q : Int} {W : World} (h : Rd w b a n c p) (hb : Below w.heap.size (w.setCell ⟨b, 1, none⟩ (.int .i64 q)) W) : Rd W b a n c q :=
  (h.set q).blocks (fun k hk => hb.block k (by simpa using hk))
theorem gone' {w w' : World} {b : Nat} {p k : Int} (p' : Int) (h1 : p ≤ p') (h2 : p' ≤ p + k) (h : Below w.heap.size (w.setCell ⟨b, 1, none⟩ (.int .i64 p')) w') : Gone w b p k w' := gone p' h1 h2 (by rw [World.size_setCell]; exact h)
theorem bdrw {B : Nat} {w W : World} (h : Below B w W) (d : Nat) : Below B w (drw W d) := ⟨h.os, h.tape, h.output, h.size, h.block⟩
theorem below_reset' {w W0 : World} {b : Nat} {q0 : Value} (h : Below w.heap.size (w.setCell ⟨b, 1, none⟩ q0) W0) (q : Value) : Below w.heap.size (w.setCell ⟨b, 1, none⟩ q) (W0.setCell ⟨b, 1, none⟩ q) := below_reset h

/-- append(list, another list of structs ..). -/
theorem wpList_appL {ops : Array Oper} {rest : List Oper} {o : Oper} {a : Act} {w : World} {Q : Exit → Act → World → Prop} (hgd : o.guard = none) (s x : Operand)
    (ho : o.op = .call { callee := .builtin .append, args := #[s, x], argTypes := #[27, 27] }) (B : Nat) (v : Value) (n : Nat) (zs : List Int) (hs : a.eval s = v) (hown : OwnG 38 2 w B v n zs) (g m c : Nat) (us : List Int)
    (hx : a.eval x = .slice (some ⟨g, 0, none⟩) m c) (hu : Ints w (some ⟨g, 0, none⟩) us) (hul : us.length = m * 2) (hlen : n + m ≤ 1000000000) (hB : B ≤ w.heap.size)
    (h : ∀ v' w', OwnG 38 2 w' B v' (n + m) (zs ++ us) → w.grownBy w' v.ownBlock → wpList Try.prog ops Q rest (a.put o.dst v') w') : wpList Try.prog ops Q (o :: rest) a w := by
  obtain ⟨i0, hi, hz0, hz1, hz2⟩ := info_parts infoE
  refine wpList_append_own _ hgd s x 27 ho B 38 i0 _ 2 16 Try.underlying27 hi hz0 hz1 hz2 rfl (by decide) v n _ hs hown ⟨g, 0, none⟩ m c (us.map (Value.int .i64)) hx (by simp [hul]) ?_ ?_ ?_ ?_ hB ?_
  · intro j u hj
    rw [List.getElem?_map] at hj
    obtain ⟨z, hz, rfl⟩ := Option.map_eq_some_iff.1 hj
    have hjl := (List.getElem?_eq_some_iff.1 hz).1
    rcases hu with h0 | ⟨b', o', e, hc⟩
    · rw [h0] at hjl; simp at hjl
    · simp only [Option.some.injEq, Addr.mk.injEq, and_true] at e
      obtain ⟨rfl, rfl⟩ := e
      rw [addr_add, hc j hjl, List.getD_eq_getElem?_getD, hz]
      rfl
  · intro u hu; obtain ⟨z, _, rfl⟩ := List.mem_map.1 hu; rfl
  · unfold maxLen; omega
  · omega
  · intro v' w' h1 h2 _
    refine h v' w' ?_ h2
    unfold OwnG
    simpa using h1

/-- The length of a slice. -/
def lenV : Value → Nat
  | .slice _ n _ => n
  | _ => 0

set_option maxHeartbeats 2000000 in
theorem l20Items_any (b : Nat) (a : Option Addr) (n c : Nat) (p m : Int) (w : World) (hr : Rd w b a n c p) (hp : 0 ≤ p) (hp1 : p ≤ 800000) (hm : 0 ≤ m) (hm1 : m ≤ 1000000) :
    Calls Try.prog 46 #[.pointer (some ⟨b, 0, none⟩), .int .i64 m] w (DrewItems w b p 40) := by
  have hlt := hr.lt
  have hle := Nat.le_of_lt hlt
  have h1 := hr.at_
  have HR := Lib.hid hr
  go_enter Try.func46, Try.ntmps46
  go_wp2_with (first | (go_at_call 44; apply Calls.mono; (focus (with_reducible apply pick_any (m := 7); (focus (repeat (first | with_reducible exact hr | (with_reducible apply Rd.base_at hs1 hB1; simp; done) | with_reducible apply Rd.plus | with_reducible apply Rd.drew | with_reducible apply Rd.drewN | with_reducible apply Rd.drw | with_reducible apply Rd.alloc | with_reducible apply Rd.set))); all_goals omega)); rintro e w1 ⟨x4, d, hx40, hx41, rfl, rfl⟩))
  obtain ⟨K, rfl⟩ := Int.eq_ofNat_of_zero_le hx40
  clear h1
  go_loopw [5, 6] (fun v' kv wr => ∃ (k cnt : Nat) (zs : List Int) (q : Int), kv = .int .i64 k ∧ k + cnt = K ∧ p ≤ q ∧ q ≤ p + 1 + 2 * cnt ∧ Hid (ItD cnt zs) ∧ Hid (OwnG 38 2 wr w.heap.size v' cnt zs) ∧ Hid (cnt = 0 → v' = .slice (some ⟨w.heap.size, 0, none⟩) 0 0) ∧ Hid (Below w.heap.size (w.setCell ⟨b, 1, none⟩ (.int .i64 q)) wr)) (fun _ kv _ => (intOf kv).toNat)
  case atStart =>
    refine ⟨K, 0, [], p + 1, rfl, by omega, by omega, by omega, ItD.nil, ?_, fun _ => rfl, ?_⟩
    · show OwnG _ _ _ _ _ _ _
      have := OwnG.made 38 2 (w.setCell ⟨b, 1, none⟩ (.int .i64 (p + 1))) w.heap.size (by simp)
      rw [World.size_setCell] at this
      exact this.drw _
    · show Below _ _ _
      exact bdrw ((Below.refl _ _).alloc (by simp) _) _
  case round =>
    obtain ⟨k, cnt, zs, q, rfl, hkc, hq0, hq1, HP, HO, HN, HB⟩ := hrel
    have hr : Rd wr b a n c q := HR.out.near' HB.out
    have hBw : w.heap.size ≤ wr.heap.size := by have := HB.out.size; simpa using this
    have hlt' : b < wr.heap.size := by omega
    have hle' := Nat.le_of_lt hlt'
    have h1 := hr.at_
    by_cases hk : 0 < k
    · obtain ⟨k, rfl⟩ : ∃ k', k = k' + 1 := ⟨k - 1, by omega⟩
      have hk' : (0 : Int) < ((k + 1 : Nat) : Int) := by omega
      go_wp2_with (first | (go_at_call 44; apply Calls.mono; (focus (with_reducible apply pick_any (m := 256); (focus (repeat (first | with_reducible exact hr | (with_reducible apply Rd.base_at hs1 hB1; simp; done) | with_reducible apply Rd.plus | with_reducible apply Rd.drew | with_reducible apply Rd.drewN | with_reducible apply Rd.drw | with_reducible apply Rd.alloc | with_reducible apply Rd.set))); all_goals omega)); rintro e w1 ⟨y1, d, hy10, hy11, rfl, rfl⟩; have wa := IntWalk.i64_in (-y1) (by omega);have wb := IntWalk.i64_in (-y1 * 2) (by omega)) | (go_at_call 44; apply Calls.mono; (focus (with_reducible apply pick_any (m := 30); (focus (repeat (first | with_reducible exact hr | (with_reducible apply Rd.base_at hs1 hB1; simp; done) | with_reducible apply Rd.plus | with_reducible apply Rd.drew | with_reducible apply Rd.drewN | with_reducible apply Rd.drw | with_reducible apply Rd.alloc | with_reducible apply Rd.set))); all_goals omega)); rintro e w1 ⟨y2, d, hy20, hy21, rfl, rfl⟩; have wc := IntWalk.i64_in (1 + y2) (by omega)) | (at_builtin; refine wpList_app2 rfl _ _ rfl w.heap.size _ cnt zs rfl (((HO.out.setb hlt _).alloc _).drw _) _ 0 (-y1 * 2) (1 + y2) rfl (by rw [drw_cell]; exact cell_new' (by simp) rfl) (by rw [drw_cell]; exact cell_new' (by simp) rfl) (by omega) (by simp [drw_heap]; omega) ?_; intro v1 w1 hown hgrow))
      have HO1 := Lib.hid hown
      have HG1 := Lib.hid hgrow
      have HP1 := Lib.hid (HP.out.app (ItD.one (show -600 ≤ -y1 * 2 by omega) (show -y1 * 2 ≤ 10001 by omega) (show 0 ≤ 1 + y2 by omega) (show 1 + y2 ≤ 101 by omega)) HO.out.len (by omega))
      clear hown hgrow
      go_wp2
      go_roundw
      case rel =>
        refine ⟨k, cnt + 1, _, q + 1 + 1, by go_num, by omega, by omega, by omega, HP1.out, HO1.out, fun h => by omega, ?_⟩
        show Below _ _ _
        exact (bdrw ((below_reset' HB.out _).alloc (by simp; omega) _) _).grown HG1.out (by first | (simp [drw_heap]; done) | (simp [drw_heap]; omega)) (fun g hg => (HO.out.lt g hg).1)
      case measure => simp [intOf]
    · obtain rfl : k = 0 := by omega
      have hk' : ¬ (0 : Int) < ((0 : Nat) : Int) := by omega
      by_cases hc0 : cnt = 0
      · subst hc0
        obtain rfl := HN.out rfl
        go_wp2
        go_ret
        exact ⟨0, zs, _, _, HP.out, rfl, HO.out, gone' q (by omega) (by omega) HB.out⟩
      · have hcp : (0 : Int) < (cnt : Int) := by omega
        obtain ⟨g, cap, rfl, hg1, hg2⟩ := HO.out.head (by omega)
        have hgb : g ≠ b := by omega
        have hcb : cnt ≤ 9223372036854775807 := by omega
        go_wp2_with (first | (go_at_call 48; apply Calls.mono; (focus (apply odd_any; (focus (repeat (first | with_reducible exact hr | (with_reducible apply Rd.base_at hs1 hB1; simp; done) | with_reducible apply Rd.plus | with_reducible apply Rd.drew | with_reducible apply Rd.drewN | with_reducible apply Rd.drw | with_reducible apply Rd.alloc | with_reducible apply Rd.set))); all_goals omega)); rintro e w1 ⟨t, p', d, hp0, hp1, rfl, rfl⟩; cases t))
        · go_ret
          exact ⟨cnt, zs, _, _, HP.out, rfl, (HO.out.setb hlt _).drw _, gone' p' (by omega) (by omega) (bdrw (below_reset' HB.out _) _)⟩
        · apply Calls.mono
          · apply pick_any (m := (cnt : Int))
            · (focus (repeat (first | with_reducible exact hr | (with_reducible apply Rd.base_at hs1 hB1; simp; done) | with_reducible apply Rd.plus | with_reducible apply Rd.drew | with_reducible apply Rd.drewN | with_reducible apply Rd.drw | with_reducible apply Rd.alloc | with_reducible apply Rd.set)))
            all_goals omega
          rintro e w1 ⟨y, d, hy0, hy1, rfl, rfl⟩
          obtain ⟨j, rfl⟩ := Int.eq_ofNat_of_zero_le hy0
          have hj : j < cnt := by omega
          have cx := HO.out.cell (j := j * 2) (by rw [HO.out.len]; omega)
          have fx := HO.out.free (j * 2)
          have cy := HO.out.cell (j := j * 2 + 1) (by rw [HO.out.len]; omega)
          have fy := HO.out.free (j * 2 + 1)
          have hcn0 : ¬ (j : Int) < 0 := by omega
          have hcn1 : (j : Int) < (cnt : Int) := by omega
          go_wp2_with (first | (go_at_call 44; apply Calls.mono; (focus (with_reducible apply pick3_any; (focus (repeat (first | with_reducible exact hr | (with_reducible apply Rd.base_at hs1 hB1; simp; done) | with_reducible apply Rd.plus | with_reducible apply Rd.drew | with_reducible apply Rd.drewN | with_reducible apply Rd.drw | with_reducible apply Rd.alloc | with_reducible apply Rd.set))); all_goals omega)); rintro e w1 ⟨x, d, rfl | rfl | rfl, rfl, rfl⟩) | (go_at_call 44; apply Calls.mono; (focus (with_reducible apply pick2_any; (focus (repeat (first | with_reducible exact hr | (with_reducible apply Rd.base_at hs1 hB1; simp; done) | with_reducible apply Rd.plus | with_reducible apply Rd.drew | with_reducible apply Rd.drewN | with_reducible apply Rd.drw | with_reducible apply Rd.alloc | with_reducible apply Rd.set))); all_goals omega)); rintro e w1 ⟨x, d, rfl | rfl, rfl, rfl⟩))
          · go_ret
            exact ⟨cnt, zs.set (j * 2) 10001, _, _, HP.out.setX (by decide) (by decide), rfl, ((HO.out.setb hlt _).set (j * 2) 10001).1.drw _, gone' (p' + 1 + 1) (by omega) (by omega) (bdrw ((below_reset' HB.out _).setCell (p := ⟨g, j * 2, none⟩) hg1 _) _)⟩
          · go_ret
            exact ⟨cnt, zs.set (j * 2 + 1) 0, _, _, HP.out.setY (by decide) (by decide), rfl, (((HO.out.setb hlt _).set (j * 2 + 1) 0).1.alloc _).drw _, gone' (p' + 1 + 1 + 1) (by omega) (by omega) (bdrw (((below_reset' HB.out _).setCell (p := ⟨g, j * 2 + 1, none⟩) hg1 _).alloc (by simp; omega) _) _)⟩
          · go_ret
            exact ⟨cnt, zs.set (j * 2 + 1) 101, _, _, HP.out.setY (by decide) (by decide), rfl, (((HO.out.setb hlt _).set (j * 2 + 1) 101).1.alloc _).drw _, gone' (p' + 1 + 1 + 1) (by omega) (by omega) (bdrw (((below_reset' HB.out _).setCell (p := ⟨g, j * 2 + 1, none⟩) hg1 _).alloc (by simp; omega) _) _)⟩
          · have HO2 := Lib.hid ((HO.out.setb (i := 1) hlt (.int .i64 (p' + 1 + 1))).drw d)
            have HB2 := Lib.hid (bdrw (below_reset' HB.out (.int .i64 (p' + 1 + 1))) d)
            have HP2 := Lib.hid HP.out
            clear hr h1 cx cy fx fy HO HB HP
            generalize drw (wr.setCell ⟨b, 1, none⟩ (.int .i64 (p' + 1 + 1))) d = W2 at HO2 HB2 ⊢
            go_loopw [5] (fun v' wr => ∃ (k : Nat) (us : List Int), 1 ≤ k ∧ k ≤ 16 ∧ lenV v' = k ∧ Hid (ItD k us) ∧ Hid (OwnG 38 2 wr w.heap.size v' k us) ∧ Hid (Below w.heap.size (w.setCell ⟨b, 1, none⟩ (.int .i64 (p' + 1 + 1))) wr)) (fun v' _ => 17 - lenV v')
            case atStart => exact ⟨cnt, zs, by omega, by omega, rfl, HP2, HO2, HB2⟩
            case round =>
              obtain ⟨k, us, hk1, hk2, hkv, HP, HO, HB⟩ := hrel
              have hBw : w.heap.size ≤ wr.heap.size := by have := HB.out.size; simpa using this
              obtain ⟨g', cap', rfl, hg3, hg4⟩ := HO.out.head (by omega)
              clear hkv
              by_cases h8 : k ≤ 8
              · have h8' : (k : Int) ≤ 8 := by omega
                go_wp2_with (first | (at_builtin; refine wpList_appL rfl _ _ rfl w.heap.size _ k us rfl HO.out g' k cap' us rfl HO.out.ints.2 HO.out.len (by omega) hBw ?_; intro v1 w1 hown hgrow))
                have HP1 := Lib.hid (HP.out.app HP.out HO.out.len (by omega))
                have HO1 := Lib.hid hown
                have HG1 := Lib.hid hgrow
                have hv1 : lenV v1 = k + k := by
                  obtain ⟨_, _, e, _⟩ := hown.form
                  rw [e]; rfl
                clear hown hgrow
                go_wp2
                go_roundw
                case rel =>
                  refine ⟨k + k, us ++ us, by omega, by omega, hv1, HP1.out, HO1.out, ?_⟩
                  show Below _ _ _
                  exact HB.out.grown HG1.out hBw (fun g hg => (HO.out.lt g hg).1)
                case measure =>
                  have hv0 : lenV (.slice (some ⟨g', 0, none⟩) k cap') = k := rfl
                  first | (simp only [hv1, hv0]; omega) | (simp [hv1, lenV]; omega)
              · have h8' : ¬ (k : Int) ≤ 8 := by omega
                go_wp2
                go_ret
                exact ⟨k, us, _, _, HP.out, rfl, HO.out, gone' (p' + 1 + 1) (by omega) (by omega) HB.out⟩

end Go.Proofs.Ytcoigofgifbmpaa
