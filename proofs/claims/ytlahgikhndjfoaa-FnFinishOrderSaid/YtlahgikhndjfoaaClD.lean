/-
  Rows and lists of claims that a call makes again and again. Conditions: those that each theorem states.
-/
import Derived.Test.YtlahgikhndjfoaaCl
import Derived.Test.YtlahgikhndjfoaaOdd
namespace Go.Proofs.Ytlahgikhndjfoaa
open Go.RowKit

theorem Rd.near' {w : World} {b : Nat} {a : Option Addr} {n c : Nat} {p q : Int} {W : World} (h : Rd w b a n c p) (hb : Below w.heap.size (w.setCell ⟨b, 1, none⟩ (.int .i64 q)) W) : Rd W b a n c q :=
  (h.set q).blocks (fun k hk => hb.block k (by simpa using hk))
theorem bdrw {B : Nat} {w W : World} (h : Below B w W) (d : Nat) : Below B w (drw W d) := ⟨h.os, h.tape, h.output, h.size, h.block⟩
theorem set_congr {w v : World} {b i : Nat} {u : Value} (h : w.heap[b]? = v.heap[b]?) : (w.setCell ⟨b, i, none⟩ u).heap[b]? = (v.setCell ⟨b, i, none⟩ u).heap[b]? := by
  simp [World.setCell, Array.getElem?_modify, h]
theorem below_reset {w W0 : World} {b : Nat} {q0 q : Value} (h : Below w.heap.size (w.setCell ⟨b, 1, none⟩ q0) W0) : Below w.heap.size (w.setCell ⟨b, 1, none⟩ q) (W0.setCell ⟨b, 1, none⟩ q) := by
  refine ⟨h.os, h.tape, h.output, by simpa using h.size, fun k hk => ?_⟩
  by_cases hkb : k = b
  · subst hkb
    rw [set_congr (h.block k hk), setCell_again]
  · rw [Below.heap_setCell _ ⟨b, 1, none⟩ _ _ hkb, Below.heap_setCell _ ⟨b, 1, none⟩ _ _ hkb, h.block k hk]
    exact Below.heap_setCell _ ⟨b, 1, none⟩ _ _ hkb
/-- The reader moves on, and on. -/
theorem below_on {w W0 W1 : World} {b : Nat} {q0 q : Value} (h : Below w.heap.size (w.setCell ⟨b, 1, none⟩ q0) W0) (h' : Below W0.heap.size (W0.setCell ⟨b, 1, none⟩ q) W1) : Below w.heap.size (w.setCell ⟨b, 1, none⟩ q) W1 :=
  (below_reset h).trans (h'.mono (by have := h.size; simpa using this))
theorem cell_new' {w : World} {cs : Array Value} {e : TypeId} {k i : Nat} {v : Value} (hk : k = w.heap.size) (hv : cs[i]? = some v) : (w.alloc (.cells cs e)).cell? ⟨k, i, none⟩ = some v := by
  subst hk
  exact (World.cell?_alloc_new w cs e i).trans hv
theorem Own.reader {w w' : World} {B b : Nat} {v : Value} {zs : List Int} {q : Value} (h : Own w B v zs) (hb : b < B) (hw : Below w.heap.size (w.setCell ⟨b, 1, none⟩ q) w') : Own w' B v zs :=
  (h.setb hb q).below (hw.mono (by simp))

/-! ### a row -/
def DrewRow (w : World) (b : Nat) (p : Int) (N : Nat) (e : Ending) (w' : World) : Prop :=
  ∃ (zs : List Int) (a : Option Addr) (c : Nat), zs.length = N ∧ e = .returned (.slice a N c) ∧ Own w' w.heap.size (.slice a N c) zs ∧ Below w.heap.size (w.setCell ⟨b, 1, none⟩ (.int .i64 (p + N))) w'

set_option maxHeartbeats 1000000 in
theorem l20Row_any (b : Nat) (a : Option Addr) (n c N : Nat) (p m : Int) (w : World) (hr : Rd w b a n c p) (hp : 0 ≤ p) (hp1 : p ≤ 900000) (hN : N ≤ 5) (hm : 0 ≤ m) (hm1 : m ≤ 1000) :
    Calls Try.prog 41 #[.pointer (some ⟨b, 0, none⟩), .int .i64 N, .int .i64 m] w (DrewRow w b p N) := by
  have hlt := hr.lt
  have hle := Nat.le_of_lt hlt
  have h1 := hr.at_
  have HR := Lib.hid hr
  have HS : Hid (w.setCell ⟨b, 1, none⟩ (.int .i64 (p + (0 : Nat))) = w) := by
    show w.setCell ⟨b, 1, none⟩ (.int .i64 (p + (0 : Nat))) = w
    rw [show p + ((0 : Nat) : Int) = p by omega]
    exact setCell_self h1
  clear h1 hr
  go_enter Try.func41, Try.ntmps41
  go_wp2
  go_loopw [7, 8] (fun v' iv wr => ∃ (j : Nat) (zs : List Int), j ≤ N ∧ iv = .int .i64 j ∧ zs.length = j ∧ Hid (Own wr w.heap.size v' zs) ∧ Hid (Below w.heap.size (w.setCell ⟨b, 1, none⟩ (.int .i64 (p + j))) wr)) (fun _ iv _ => N - (intOf iv).toNat)
  case atStart =>
    refine ⟨0, [], Nat.zero_le _, rfl, rfl, ?_, ?_⟩
    · exact Own.made w w.heap.size (Nat.le_refl _)
    · show Below _ _ _
      rw [HS.out]
      exact (Below.refl _ _).alloc (Nat.le_refl _) _
  case round =>
    obtain ⟨j, zs, hj, rfl, hz, HO, HB⟩ := hrel
    by_cases hlt2 : j < N
    · have hlt' : (j : Int) < (N : Int) := by omega
      have hr : Rd wr b a n c (p + j) := HR.out.near' HB.out
      have hBw : w.heap.size ≤ wr.heap.size := by have := HB.out.size; simpa using this
      have hlw : b < wr.heap.size := by omega
      have hlew := Nat.le_of_lt hlw
      have h1 := hr.at_
      have HZ := Lib.hid hz
      clear hz
      go_wp2_with (first | (go_at_call 40; apply Calls.mono; (focus (apply pick_any; (focus (repeat (first | with_reducible exact hr | (with_reducible apply Rd.base_at hs1 hB1; simp; done) | with_reducible apply Rd.plus | with_reducible apply Rd.drew | with_reducible apply Rd.drewN | with_reducible apply Rd.drw | with_reducible apply Rd.alloc | with_reducible apply Rd.set))); all_goals omega)); rintro e w1 ⟨x, d, hx0, hx1, rfl, rfl⟩) | (at_builtin; refine wpList_app rfl _ _ rfl w.heap.size _ zs rfl (((HO.out.setb hlt _).drw _).alloc _) _ x rfl (cell_new' (by simp) rfl) (by rw [HZ.out]; omega) (by simp [drw_heap]; omega) ?_; intro v1 w1 hown hgrow))
      have HO2 := Lib.hid hown
      have HG2 := Lib.hid hgrow
      clear hown hgrow
      go_wp2
      go_roundw
      case rel =>
        refine ⟨j + 1, _, by omega, by go_num, by simp [HZ.out], HO2.out, ?_⟩
        show Below _ _ _
        rw [show p + ((j + 1 : Nat) : Int) = p + j + 1 by omega]
        exact (bdrw ((below_reset HB.out).alloc (by simp; omega) _) _).grown HG2.out (by simp [drw_heap]; omega) (fun g hg => (HO.out.lt g hg).1)
      case measure => simp [intOf]; omega
    · have hlt' : ¬ (j : Int) < (N : Int) := by omega
      obtain rfl : j = N := by omega
      obtain ⟨a', c', hv, _⟩ := HO.out.form
      rw [hz] at hv
      subst hv
      have HZ := Lib.hid hz
      clear hz
      go_wp2
      go_ret
      exact ⟨zs, a', c', HZ.out, rfl, HO.out, HB.out⟩

end Go.Proofs.Ytlahgikhndjfoaa
