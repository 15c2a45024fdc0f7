/-
  The walk of the law on valid pairs. No condition.
-/
import Derived.Test.YtfonccnpgedgfaaPrD2
import Derived.Test.YtfonccnpgedgfaaPv
namespace Go.Proofs.Ytfonccnpgedgfaa
open Go.RowKit

theorem Ints.take {w : World} {a : Option Addr} {zs : List Int} (h : Ints w a zs) (k : Nat) : Ints w a (zs.take k) := by
  rcases h with rfl | ⟨blk, off, rfl, hc⟩
  · exact .inl (by simp)
  · refine .inr ⟨blk, off, rfl, fun i hi => ?_⟩
    simp at hi
    rw [hc i (by omega), List.getD_eq_getElem?_getD, List.getD_eq_getElem?_getD, List.getElem?_take_of_lt (by omega)]
theorem Ints.drop {w : World} {blk off : Nat} {zs : List Int} (h : Ints w (some ⟨blk, off, none⟩) zs) (k : Nat) : Ints w (some ⟨blk, off + k, none⟩) (zs.drop k) := by
  rcases h with rfl | ⟨blk', off', e, hc⟩
  · exact .inl (by simp)
  · simp only [Option.some.injEq, Addr.mk.injEq, and_true] at e
    obtain ⟨rfl, rfl⟩ := e
    refine .inr ⟨blk, off + k, rfl, fun i hi => ?_⟩
    simp at hi
    rw [Nat.add_assoc, hc (k + i) (by omega), List.getD_eq_getElem?_getD, List.getD_eq_getElem?_getD, List.getElem?_drop]
theorem lit2 {W : World} {B : Nat} {x y : Int} (T : TypeId) (hB : B = W.heap.size) : Ints (W.alloc (.cells #[.int .i64 x, .int .i64 y] T)) (some ⟨B, 0, none⟩) [x, y] := by
  subst hB
  refine .inr ⟨_, 0, rfl, fun i hi => ?_⟩
  have h := World.cell?_alloc_new W #[.int .i64 x, .int .i64 y] T i
  rw [Nat.zero_add, h]
  match i, hi with
  | 0, _ => rfl
  | 1, _ => rfl
  | i + 2, hi => simp at hi; omega
theorem pairs_nil : pairsB 0 [] = false := by decide
theorem pairs_bad : pairsB 1 [0, 1001] = false := by decide
theorem pairs_one {n : Nat} {zs : List Int} (h : pairsB n zs = true) (hz : zs.length = n * 2) : pairsB 1 (zs.take 2) = true := by
  have h1 := pairsB_t.1 h
  refine pairsB_t.2 ⟨by omega, fun j hj => ?_⟩
  obtain rfl : j = 0 := by omega
  have h2 := h1.2 0 (by omega)
  unfold okP pX pY at h2 ⊢
  rw [List.getD_eq_getElem?_getD, List.getD_eq_getElem?_getD, List.getElem?_take_of_lt (by omega), List.getElem?_take_of_lt (by omega), ← List.getD_eq_getElem?_getD, ← List.getD_eq_getElem?_getD]
  exact h2

set_option maxHeartbeats 4000000 in
theorem lawPairsValid_any (a : Option Addr) (n c : Nat) (w : World) (hb : Bytes w w.heap.size a n) (hnc : n ≤ c) (hcm : c ≤ maxLen) :
    Calls Try.prog 4 #[.slice a n c] w fun e w' => e = .returned (.bool true) ∧ Up w w' := by
  have hmm : c ≤ 9223372036854775807 := by unfold maxLen at hcm; omega
  by_cases hn : n ≤ 1048576
  · go_enter Try.func4, Try.ntmps4
    go_wp2_with (go_at_call 18; refine (drawPairsValid_any _ _ _ _ hb hnc hcm).mono ?_; rintro e w1 ⟨m, zs, a1, c1, rfl, hD⟩)
    have hz := hD.2.1.len
    obtain ⟨hmc, hc1⟩ : m ≤ c1 ∧ c1 ≤ maxLen := by
      obtain ⟨a', c', e, h1, h2, _⟩ := hD.2.1.form
      simp only [Value.slice.injEq] at e
      obtain ⟨_, _, rfl⟩ := e
      exact ⟨h1, h2⟩
    have hm21 := hD.1.1
    have HI := Lib.hid hD.2.1.ints.2
    have HW := Lib.hid hD.2.2
    have HZ := Lib.hid hz
    clear hD hz hb
    go_wp2_with fail
    refine (valid_any _ _ _ zs _ HZ.out HI.out (by omega)).mono ?_
    rintro e w2 ⟨rfl, hU⟩
    have HI2 := Lib.hid (HI.out.below hU.below)
    have HW2 := Lib.hid (HW.out.trans (hU.below.mono HW.out.size))
    clear hU
    go_wp2_with fail
    refine (sValid_any _ _ _ zs _ HZ.out HI2.out (by omega)).mono ?_
    rintro e w' ⟨rfl, rfl⟩
    have h0 := fun W => valid_any none 0 0 [] W rfl (.inl rfl) (by omega)
    rw [pairs_nil] at h0
    cases hp : pairsB m zs
    · go_wp2_with (first | (go_at_call 16; refine (h0 _).mono ?_; rintro e w3 ⟨rfl, hU⟩; have HW3 := Lib.hid (HW2.out.trans (hU.below.mono HW2.out.size)); clear hU h0))
      have h3 := fun (W : World) => valid_any (some ⟨W.heap.size, 0, none⟩) 1 1 [0, 1001] (W.alloc (.cells #[.int .i64 0, .int .i64 1001] 32)) rfl (lit2 _ rfl) (by omega)
      rw [pairs_bad] at h3
      go_wp2_with (first | (go_at_call 16; refine (h3 _).mono ?_; rintro e w4 ⟨rfl, hU⟩))
      go_ret
      exact ⟨rfl, up_of_below ((below_alloc HW3.out _).trans (hU.below.mono (below_alloc HW3.out _).size))⟩
    · have hm1 := (pairsB_t.1 hp).1.1
      have HP := Lib.hid (pairs_one hp HZ.out)
      have hle : (1 : Int) ≤ (c1 : Int) := by omega
      go_wp2_with (first | (go_at_call 16; refine (h0 _).mono ?_; rintro e w3 ⟨rfl, hU⟩; have HW3 := Lib.hid (HW2.out.trans (hU.below.mono HW2.out.size)); have HI3 := Lib.hid (HI2.out.below hU.below); clear hU h0))
      have h1 := fun W hi => valid_any a1 1 c1 (zs.take 2) W (by have := HZ.out; simp; omega) hi (by omega)
      rw [HP.out] at h1
      go_wp2_with (first | (go_at_call 16; refine (h1 _ (HI3.out.take 2)).mono ?_; rintro e w4 ⟨rfl, hU⟩; have HW4 := Lib.hid (HW3.out.trans (hU.below.mono HW3.out.size)); clear hU h1))
      have h3 := fun (W : World) => valid_any (some ⟨W.heap.size, 0, none⟩) 1 1 [0, 1001] (W.alloc (.cells #[.int .i64 0, .int .i64 1001] 32)) rfl (lit2 _ rfl) (by omega)
      rw [pairs_bad] at h3
      go_wp2_with (first | (go_at_call 16; refine (h3 _).mono ?_; rintro e w5 ⟨rfl, hU⟩))
      go_ret
      exact ⟨rfl, up_of_below ((below_alloc HW4.out _).trans (hU.below.mono (below_alloc HW4.out _).size))⟩
  · go_enter Try.func4, Try.ntmps4
    go_wp2
    go_ret
    exact ⟨rfl, up_of_below (Below.refl _ _)⟩

end Go.Proofs.Ytfonccnpgedgfaa
