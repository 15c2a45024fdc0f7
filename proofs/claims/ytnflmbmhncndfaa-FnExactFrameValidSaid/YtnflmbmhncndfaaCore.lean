/-
  Contracts of the small functions that every law of this seat reaches: the ranges, the reader of a code (pick, odd, l20Open). No condition beyond those that each theorem states.
-/
import Derived.Test.YtnflmbmhncndfaaBase
import Derived.Deep.QuietTactic
import Derived.BigQuiet
import Derived.OpenShut
namespace Go.Proofs.Ytnflmbmhncndfaa
open Go.RowKit

/-- The world has new blocks and draws, nothing else. -/
def Up (w w' : World) : Prop := ∃ os d, w' = plus w os d
theorem up_of_below {w w' : World} (h : Below w.heap.size w w') : Up w w' := plus_of_below h
theorem Up.below {w w' : World} (h : Up w w') : Below w.heap.size w w' := by
  obtain ⟨os, d, rfl⟩ := h
  exact below_plus (Below.refl _ _) _ _

set_option maxHeartbeats 400000 in
theorem within_any (n lo hi : Int) (w : World) :
    Calls Try.prog 37 #[.int .i64 n, .int .i64 lo, .int .i64 hi] w fun e w' => e = .returned (.bool (inB n lo hi)) ∧ w = w' := by
  by_cases h1 : lo ≤ n <;> by_cases h2 : n ≤ hi <;>
  · go_enter Try.func37, Try.ntmps37
    go_wp2
    go_ret
    exact ⟨by simp [inB]; omega, rfl⟩

set_option maxHeartbeats 400000 in
theorem l1In_any (n lo hi : Int) (w : World) :
    Calls Try.prog 36 #[.int .i64 n, .int .i64 lo, .int .i64 hi] w fun e w' => e = .returned (.bool (inB n lo hi)) ∧ w = w' := by
  by_cases h1 : lo ≤ n <;> by_cases h2 : n ≤ hi <;>
  · go_enter Try.func36, Try.ntmps36
    go_wp2
    go_ret
    exact ⟨by simp [inB]; omega, rfl⟩

/-- A slice of bytes that can be read: n bytes from a on, in blocks other than b. -/
def Bytes (w : World) (b : Nat) (a : Option Addr) (n : Nat) : Prop :=
  n = 0 ∨ ∃ blk off, a = some ⟨blk, off, none⟩ ∧ blk ≠ b ∧ ∀ i, i < n → ∃ z : Int, 0 ≤ z ∧ z ≤ 255 ∧ w.cell? ⟨blk, off + i, none⟩ = some (.int .u8 z)

theorem addr_add (blk off i : Nat) : (⟨blk, off, none⟩ : Addr).add i = ⟨blk, off + i, none⟩ := by
  by_cases h : i = 0
  · subst h; simp [Addr.add]
  · simp [Addr.add, h]

theorem bytes_of_row {W : World} {x : Addr} {l c : Nat} {zs : List Int} (hl : l ≤ c) (hz : zs.length = c) (hcell : ∀ i, i < zs.length → W.cell? (x.add i) = some (.int .u8 (zs.getD i 0))) (hwz : ∀ n ∈ zs, (Lit.int .u8 n).wf = true) : Bytes W W.heap.size (some x) l := by
  by_cases h0 : l = 0
  · exact .inl h0
  · obtain ⟨blk, off, spot⟩ := x
    have hc := hcell 0 (by omega)
    have hspot : spot = none := by simpa [Addr.add] using World.cell?_spot hc
    subst hspot
    have hlt := World.block_lt_of_cell? _ _ hc
    simp only [Addr.add] at hlt
    refine .inr ⟨blk, off, rfl, Nat.ne_of_lt hlt, fun i hi => ⟨zs.getD i 0, ?_, ?_, addr_add blk off i ▸ hcell i (by omega)⟩⟩
    · exact (bounds_u8 (hwz _ (by rw [List.getD_eq_getElem?_getD, List.getElem?_eq_getElem (by omega)]; simp))).1
    · exact (bounds_u8 (hwz _ (by rw [List.getD_eq_getElem?_getD, List.getElem?_eq_getElem (by omega)]; simp))).2

/-- Block b is a reader over the n bytes from a on, at place p. -/
structure Rd (w : World) (b : Nat) (a : Option Addr) (n c : Nat) (p : Int) : Prop where
  code : w.cell? ⟨b, 0, none⟩ = some (.slice a n c)
  at_ : w.cell? ⟨b, 1, none⟩ = some (.int .i64 p)
  free : w.frozen? ⟨b, 1, none⟩ = false
  short : n ≤ 2000
  bytes : Bytes w b a n

theorem Rd.lt {w : World} {b : Nat} {a : Option Addr} {n c : Nat} {p : Int} (h : Rd w b a n c p) : b < w.heap.size := World.block_lt_of_cell? _ ⟨b, 1, none⟩ h.at_

theorem Bytes.blocks {w w' : World} {b : Nat} {a : Option Addr} {n : Nat} (h : Bytes w b a n) (hk : ∀ k, k < w.heap.size → k ≠ b → w'.heap[k]? = w.heap[k]?) : Bytes w' b a n := by
  rcases h with h | ⟨blk, off, ha, hb, hz⟩
  · exact .inl h
  · refine .inr ⟨blk, off, ha, hb, fun i hi => ?_⟩
    obtain ⟨z, h0, h1, hc⟩ := hz i hi
    exact ⟨z, h0, h1, (World.cell?_of_block (w := w) (hk blk (World.block_lt_of_cell? _ _ hc) hb)).trans hc⟩

theorem Rd.set {w : World} {b : Nat} {a : Option Addr} {n c : Nat} {p : Int} (h : Rd w b a n c p) (q : Int) : Rd (w.setCell ⟨b, 1, none⟩ (.int .i64 q)) b a n c q where
  code := (World.cell?_setCell_other _ _ _ _ (by simp)).trans h.code
  at_ := World.cell?_setCell_same _ _ _ h.at_
  free := (World.frozen?_setCell _ _ _ _).trans h.free
  short := h.short
  bytes := h.bytes.blocks fun k _ hk => Below.heap_setCell _ _ _ _ hk

theorem Rd.blocks {w w' : World} {b : Nat} {a : Option Addr} {n c : Nat} {p : Int} (h : Rd w b a n c p) (hk : ∀ k, k < w.heap.size → w'.heap[k]? = w.heap[k]?) : Rd w' b a n c p where
  code := (World.cell?_of_block (w := w) (hk b h.lt)).trans h.code
  at_ := (World.cell?_of_block (w := w) (hk b h.lt)).trans h.at_
  free := (World.frozen?_of_block (w := w) (hk b h.lt)).trans h.free
  short := h.short
  bytes := h.bytes.blocks fun k hl _ => hk k hl

theorem Rd.plus {w : World} {b : Nat} {a : Option Addr} {n c : Nat} {p : Int} (h : Rd w b a n c p) (os : Array Obj) (d : Nat) : Rd (plus w os d) b a n c p :=
  h.blocks fun _ hk => plus_block hk
theorem Rd.alloc {w : World} {b : Nat} {a : Option Addr} {n c : Nat} {p : Int} (h : Rd w b a n c p) (o : Obj) : Rd (w.alloc o) b a n c p :=
  h.blocks fun _ hk => Below.heap_alloc _ _ _ hk
theorem Rd.drew {w : World} {b : Nat} {a : Option Addr} {n c : Nat} {p : Int} (h : Rd w b a n c p) : Rd w.drew b a n c p := h.blocks fun _ _ => rfl
theorem Rd.drewN {w : World} {b : Nat} {a : Option Addr} {n c : Nat} {p : Int} (h : Rd w b a n c p) (k : Nat) : Rd (w.drewN k) b a n c p := h.blocks fun _ _ => rfl

/-- The reader that l20Open lays. -/
theorem Rd.base {w : World} {a : Option Addr} {n c : Nat} {p : Int} (hs : n ≤ 2000) (h : Bytes w w.heap.size a n) : Rd (w.alloc (.cells #[.slice a n c, .int .i64 p] 65)) w.heap.size a n c p where
  code := World.cell?_alloc_new _ _ _ 0
  at_ := World.cell?_alloc_new _ _ _ 1
  free := World.frozen?_alloc_new _ _ _ 1
  short := hs
  bytes := h.blocks fun _ hk _ => Below.heap_alloc _ _ _ hk

theorem setCell_self {w : World} {b i : Nat} {v : Value} (h : w.cell? ⟨b, i, none⟩ = some v) : w.setCell ⟨b, i, none⟩ v = w := by
  unfold World.setCell
  have e : w.heap.modify b (fun o => match o with
      | .cells c e f => .cells (c.setIfInBounds i v) e f
      | o => o) = w.heap := by
    apply Array.ext_getElem?
    intro k
    simp only [Array.getElem?_modify]
    by_cases hk : b = k
    · subst hk
      simp only [World.cell?] at h
      cases hb : w.heap[b]? with
      | none => simp
      | some x =>
        rw [hb] at h
        cases x with
        | cells c e f =>
          simp at h
          simp only [if_true, Option.map_some, Option.some.injEq, Obj.cells.injEq, and_true]
          apply Array.ext_getElem?
          intro j
          rw [Array.getElem?_setIfInBounds]
          by_cases hj : i = j
          · subst hj
            rw [if_pos rfl, h]
            obtain ⟨hlt, _⟩ := Array.getElem?_eq_some_iff.1 h
            simp [hlt]
          · simp [hj]
        | _ => simp
    · simp [hk]
  exact congrArg (fun x => { w with heap := x }) e

end Go.Proofs.Ytnflmbmhncndfaa
