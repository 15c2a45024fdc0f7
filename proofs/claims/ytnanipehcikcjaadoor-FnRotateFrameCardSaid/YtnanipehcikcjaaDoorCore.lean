/-
  Contracts of the small functions that every law of this seat reaches: the ranges, the reader of a code (pick, odd, l20Open). No condition beyond those that each theorem states.
-/
import Derived.Test.YtnanipehcikcjaaDoorBase
import Derived.Deep.QuietTactic
import Derived.BigQuiet
import Derived.OpenShut
namespace Go.Proofs.YtnanipehcikcjaaDoor
open Go.RowKit

/-- The world has new blocks and draws, nothing else. -/
def Up (w w' : World) : Prop := ∃ os d, w' = plus w os d
theorem up_of_below {w w' : World} (h : Below w.heap.size w w') : Up w w' := plus_of_below h
theorem Up.below {w w' : World} (h : Up w w') : Below w.heap.size w w' := by
  obtain ⟨os, d, rfl⟩ := h
  exact below_plus (Below.refl _ _) _ _

set_option maxHeartbeats 400000 in
theorem within_any (n lo hi : Int) (w : World) :
    Calls Tryd.prog 25 #[.int .i64 n, .int .i64 lo, .int .i64 hi] w fun e w' => e = .returned (.bool (inB n lo hi)) ∧ w = w' := by
  by_cases h1 : lo ≤ n <;> by_cases h2 : n ≤ hi <;>
  · go_enter Tryd.func25, Tryd.ntmps25
    go_wp2
    go_ret
    exact ⟨by simp [inB]; omega, rfl⟩

set_option maxHeartbeats 400000 in
theorem l1In_any (n lo hi : Int) (w : World) :
    Calls Tryd.prog 18 #[.int .i64 n, .int .i64 lo, .int .i64 hi] w fun e w' => e = .returned (.bool (inB n lo hi)) ∧ w = w' := by
  by_cases h1 : lo ≤ n <;> by_cases h2 : n ≤ hi <;>
  · go_enter Tryd.func18, Tryd.ntmps18
    go_wp2
    go_ret
    exact ⟨by simp [inB]; omega, rfl⟩

/-- A slice of bytes that can be read: n bytes from a on, in blocks other than b. -/
def Bytes (w : World) (b : Nat) (a : Option Addr) (n : Nat) : Prop :=
  n = 0 ∨ ∃ blk off, a = some ⟨blk, off, none⟩ ∧ blk ≠ b ∧ ∀ i, i < n → ∃ z : Int, 0 ≤ z ∧ z ≤ 255 ∧ w.cell? ⟨blk, off + i, none⟩ = some (.int .u8 z)

theorem addr_add (blk off i : Nat) : (⟨blk, off, none⟩ : Addr).add i = ⟨blk, off + i, none⟩ := by
  by_cases h : i = 0
  · subst h; simp [Addr.add]
  · simp [Addr.add, h]

theorem bytes_of_row {W : World} {x : Addr} {l c : Nat} {zs : List Int} (hl : l ≤ c) (hz : zs.length = c) (hcell : ∀ i, i < zs.length → W.cell? (x.add i) = some (.int .u8 (zs.getD i 0))) (hwz : ∀ n ∈ zs, (Lit.int .u8 n).wf = true) : Bytes W W.heap.size (some x) l := by
  by_cases h0 : l = 0
  · exact .inl h0
  · obtain ⟨blk, off, spot⟩ := x
    have hc := hcell 0 (by omega)
    have hspot : spot = none := by simpa [Addr.add] using World.cell?_spot hc
    subst hspot
    have hlt := World.block_lt_of_cell? _ _ hc
    simp only [Addr.add] at hlt
    refine .inr ⟨blk, off, rfl, Nat.ne_of_lt hlt, fun i hi => ⟨zs.getD i 0, ?_, ?_, addr_add blk off i ▸ hcell i (by omega)⟩⟩
    · exact (bounds_u8 (hwz _ (by rw [List.getD_eq_getElem?_getD, List.getElem?_eq_getElem (by omega)]; simp))).1
    · exact (bounds_u8 (hwz _ (by rw [List.getD_eq_getElem?_getD, List.getElem?_eq_getElem (by omega)]; simp))).2

/-- Block b is a reader over the n bytes from a on, at place p. -/
structure Rd (w : World) (b : Nat) (a : Option Addr) (n c : Nat) (p : Int) : Prop where
  code : w.cell? ⟨b, 0, none⟩ = some (.slice a n c)
  at_ : w.cell? ⟨b, 1, none⟩ = some (.int .i64 p)
  free : w.frozen? ⟨b, 1, none⟩ = false
  short : n ≤ 2000
  bytes : Bytes w b a n

theorem Rd.lt {w : World} {b : Nat} {a : Option Addr} {n c : Nat} {p : Int} (h : Rd w b a n c p) : b < w.heap.size := World.block_lt_of_cell? _ ⟨b, 1, none⟩ h.at_

theorem Bytes.blocks {w w' : World} {b : Nat} {a : Option Addr} {n : Nat} (h : Bytes w b a n) (hk : ∀ k, k < w.heap.size → k ≠ b → w'.heap[k]? = w.heap[k]?) : Bytes w' b a n := by
  rcases h with h | ⟨blk, off, ha, hb, hz⟩
  · exact .inl h
  · refine .inr ⟨blk, off, ha, hb, fun i hi => ?_⟩
    obtain ⟨z, h0, h1, hc⟩ := hz i hi
    exact ⟨z, h0, h1, (World.cell?_of_block (w := w) (hk blk (World.block_lt_of_cell? _ _ hc) hb)).trans hc⟩

theorem Rd.set {w : World} {b : Nat} {a : Option Addr} {n c : Nat} {p : Int} (h : Rd w b a n c p) (q : Int) : Rd (w.setCell ⟨b, 1, none⟩ (.int .i64 q)) b a n c q where
  code := (World.cell?_setCell_other _ _ _ _ (by simp)).trans h.code
  at_ := World.cell?_setCell_same _ _ _ h.at_
  free := (World.frozen?_setCell _ _ _ _).trans h.free
  short := h.short
  bytes := h.bytes.blocks fun k _ hk => Below.heap_setCell _ _ _ _ hk

theorem Rd.blocks {w w' : World} {b : Nat} {a : Option Addr} {n c : Nat} {p : Int} (h : Rd w b a n c p) (hk : ∀ k, k < w.heap.size → w'.heap[k]? = w.heap[k]?) : Rd w' b a n c p where
  code := (World.cell?_of_block (w := w) (hk b h.lt)).trans h.code
  at_ := (World.cell?_of_block (w := w) (hk b h.lt)).trans h.at_
  free := (World.frozen?_of_block (w := w) (hk b h.lt)).trans h.free
  short := h.short
  bytes := h.bytes.blocks fun k hl _ => hk k hl

theorem Rd.plus {w : World} {b : Nat} {a : Option Addr} {n c : Nat} {p : Int} (h : Rd w b a n c p) (os : Array Obj) (d : Nat) : Rd (plus w os d) b a n c p :=
  h.blocks fun _ hk => plus_block hk
theorem Rd.drw {w : World} {b : Nat} {a : Option Addr} {n c : Nat} {p : Int} (h : Rd w b a n c p) (d : Nat) : Rd (drw w d) b a n c p := h.blocks fun _ _ => rfl
theorem Rd.alloc {w : World} {b : Nat} {a : Option Addr} {n c : Nat} {p : Int} (h : Rd w b a n c p) (o : Obj) : Rd (w.alloc o) b a n c p :=
  h.blocks fun _ hk => Below.heap_alloc _ _ _ hk
theorem Rd.drew {w : World} {b : Nat} {a : Option Addr} {n c : Nat} {p : Int} (h : Rd w b a n c p) : Rd w.drew b a n c p := h.blocks fun _ _ => rfl
theorem Rd.drewN {w : World} {b : Nat} {a : Option Addr} {n c : Nat} {p : Int} (h : Rd w b a n c p) (k : Nat) : Rd (w.drewN k) b a n c p := h.blocks fun _ _ => rfl

/-- The reader that l20Open lays. -/
theorem Rd.base {w : World} {a : Option Addr} {n c : Nat} {p : Int} (hs : n ≤ 2000) (h : Bytes w w.heap.size a n) : Rd (w.alloc (.cells #[.slice a n c, .int .i64 p] 45)) w.heap.size a n c p where
  code := World.cell?_alloc_new _ _ _ 0
  at_ := World.cell?_alloc_new _ _ _ 1
  free := World.frozen?_alloc_new _ _ _ 1
  short := hs
  bytes := h.blocks fun _ hk _ => Below.heap_alloc _ _ _ hk

theorem Bytes.later {w W : World} {a : Option Addr} {n : Nat} (h : Bytes w w.heap.size a n) (hb : Below w.heap.size w W) : Bytes W W.heap.size a n := by
  rcases h with h | ⟨blk, off, ha, _, hz⟩
  · exact .inl h
  · by_cases hn : n = 0
    · exact .inl hn
    · obtain ⟨_, _, _, hc0⟩ := hz 0 (by omega)
      have hlt := World.block_lt_of_cell? _ _ hc0
      refine .inr ⟨blk, off, ha, Nat.ne_of_lt (Nat.lt_of_lt_of_le hlt hb.size), fun i hi => ?_⟩
      obtain ⟨z, h0, h1, hc⟩ := hz i hi
      exact ⟨z, h0, h1, (World.cell?_of_block (w := w) (hb.block blk hlt)).trans hc⟩

theorem Rd.base_at {W : World} {k : Nat} {a : Option Addr} {n c : Nat} {p : Int} (hs : n ≤ 2000) (h : Bytes W W.heap.size a n) (hk : k = W.heap.size) : Rd (W.alloc (.cells #[.slice a n c, .int .i64 p] 45)) k a n c p := by
  subst hk
  exact Rd.base hs h

theorem setCell_self {w : World} {b i : Nat} {v : Value} (h : w.cell? ⟨b, i, none⟩ = some v) : w.setCell ⟨b, i, none⟩ v = w := by
  unfold World.setCell
  have e : w.heap.modify b (fun o => match o with
      | .cells c e f => .cells (c.setIfInBounds i v) e f
      | o => o) = w.heap := by
    apply Array.ext_getElem?
    intro k
    simp only [Array.getElem?_modify]
    by_cases hk : b = k
    · subst hk
      simp only [World.cell?] at h
      cases hb : w.heap[b]? with
      | none => simp
      | some x =>
        rw [hb] at h
        cases x with
        | cells c e f =>
          simp at h
          simp only [if_true, Option.map_some, Option.some.injEq, Obj.cells.injEq, and_true]
          apply Array.ext_getElem?
          intro j
          rw [Array.getElem?_setIfInBounds]
          by_cases hj : i = j
          · subst hj
            rw [if_pos rfl, h]
            obtain ⟨hlt, _⟩ := Array.getElem?_eq_some_iff.1 h
            simp [hlt]
          · simp [hj]
        | _ => simp
    · simp [hk]
  exact congrArg (fun x => { w with heap := x }) e


theorem cell_far {w : World} {b i j blk : Nat} {v u : Value} (h : w.cell? ⟨blk, j, none⟩ = some u) (hne : blk ≠ b) : (w.setCell ⟨b, i, none⟩ v).cell? ⟨blk, j, none⟩ = some u :=
  (World.cell?_of_block (Below.heap_setCell w _ v _ hne)).trans h

theorem i64_xor_pos (a b : Int) (h1 : 0 ≤ a) (h2 : a < 4294967296) (h3 : 0 ≤ b) (h4 : b < 4294967296) : 0 ≤ bits .xor .i64 a b := by
  obtain ⟨x, rfl⟩ := Int.eq_ofNat_of_zero_le h1
  obtain ⟨y, rfl⟩ := Int.eq_ofNat_of_zero_le h3
  have hx : x ^^^ y < 2 ^ 32 := Nat.xor_lt_two_pow (by omega) (by omega)
  show 0 ≤ IntKind.i64.wrap ((BitVec.ofInt 64 (x : Int) ^^^ BitVec.ofInt 64 (y : Int)).toNat : Int)
  rw [BitVec.toNat_xor, ofInt_u64 x (by omega), ofInt_u64 y (by omega), IntWalk.i64_in _ (by omega)]
  omega

/-- What a pick from 0 .. m-1 does. -/
def Picked (w : World) (b : Nat) (p m : Int) (e : Ending) (w' : World) : Prop :=
  ∃ (x : Int) (d : Nat), 0 ≤ x ∧ x < m ∧ e = .returned (.int .i64 x) ∧ w' = drw (w.setCell ⟨b, 1, none⟩ (.int .i64 (p + 1))) d

set_option maxHeartbeats 400000 in
theorem pick_zero (b : Nat) (a : Option Addr) (c : Nat) (p m : Int) (w : World) (hr : Rd w b a 0 c p) (hp : 0 ≤ p) (hp1 : p ≤ 1000000) (hm : 1 ≤ m) (hm1 : m ≤ 1000000) :
    Calls Tryd.prog 23 #[.pointer (some ⟨b, 0, none⟩), .int .i64 m] w (Picked w b p m) := by
  obtain ⟨h0, h1, hf, _, _⟩ := hr
  have h1' : ∀ v, (w.setCell ⟨b, 1, none⟩ v).cell? ⟨b, 1, none⟩ = some v := fun v => World.cell?_setCell_same _ _ _ h1
  have h0' : ∀ v, (w.setCell ⟨b, 1, none⟩ v).cell? ⟨b, 0, none⟩ = some (.slice a 0 c) := fun v => (World.cell?_setCell_other _ _ _ _ (by simp)).trans h0
  have hz : decide (m < 1) = false := by simp; omega
  go_enter Tryd.func23, Tryd.ntmps23
  go_wp2
  go_ret
  exact ⟨0, _, by omega, by omega, rfl, drw_id.symm⟩

set_option maxHeartbeats 400000 in
theorem pick_in (b : Nat) (blk off n c k : Nat) (z : Int) (m : Int) (w : World) (h0 : w.cell? ⟨b, 0, none⟩ = some (.slice (some ⟨blk, off, none⟩) n c)) (h1 : w.cell? ⟨b, 1, none⟩ = some (.int .i64 k)) (hf : w.frozen? ⟨b, 1, none⟩ = false)
    (hk : k < n) (hn : n ≤ 2000) (hz0 : 0 ≤ z) (hz1 : z ≤ 255) (hne : blk ≠ b) (hz : w.cell? ⟨blk, off + k, none⟩ = some (.int .u8 z)) (hm : 1 ≤ m) (hm1 : m ≤ 1000000) :
    Calls Tryd.prog 23 #[.pointer (some ⟨b, 0, none⟩), .int .i64 m] w (Picked w b k m) := by
  have h1' : ∀ v, (w.setCell ⟨b, 1, none⟩ v).cell? ⟨b, 1, none⟩ = some v := fun v => World.cell?_setCell_same _ _ _ h1
  have h0' : ∀ v, (w.setCell ⟨b, 1, none⟩ v).cell? ⟨b, 0, none⟩ = some (.slice (some ⟨blk, off, none⟩) n c) := fun v => (World.cell?_setCell_other _ _ _ _ (by simp)).trans h0
  have hz' : ∀ v, (w.setCell ⟨b, 1, none⟩ v).cell? ⟨blk, off + k, none⟩ = some (.int .u8 z) := fun v => cell_far hz hne
  have hmz : decide (m < 1) = false := by simp; omega
  have hnz : ((n : Int) == 0) = false := by simp; omega
  clear hz hne
  go_enter Tryd.func23, Tryd.ntmps23
  go_wp2
  go_ret
  exact ⟨_, _, Int.emod_nonneg _ (by omega), Int.emod_lt_of_pos _ (by omega), rfl, drw_id.symm⟩

set_option maxHeartbeats 400000 in
theorem pick_past (b : Nat) (blk off n c k i1 i2 : Nat) (z1 z2 q : Int) (m : Int) (w : World) (h0 : w.cell? ⟨b, 0, none⟩ = some (.slice (some ⟨blk, off, none⟩) n c)) (h1 : w.cell? ⟨b, 1, none⟩ = some (.int .i64 k)) (hf : w.frozen? ⟨b, 1, none⟩ = false)
    (hn0 : 0 < n) (hk : n ≤ k) (hk1 : k ≤ 1000000) (hn : n ≤ 2000) (hne : blk ≠ b) (hz1 : w.cell? ⟨blk, off + i1, none⟩ = some (.int .u8 z1)) (hz2 : w.cell? ⟨blk, off + i2, none⟩ = some (.int .u8 z2))
    (e1 : (k : Int).tmod n = i1) (e2 : ((k : Int) * 7 + 3).tmod n = i2) (e3 : (k : Int).tdiv n = q) (q0 : 0 ≤ q) (q1 : q ≤ 1000000) (l1 : (i1 : Int) < n) (l2 : (i2 : Int) < n) (b1 : 0 ≤ z1) (b2 : z1 ≤ 255) (b3 : 0 ≤ z2) (b4 : z2 ≤ 255) (hm : 1 ≤ m) (hm1 : m ≤ 1000000) :
    Calls Tryd.prog 23 #[.pointer (some ⟨b, 0, none⟩), .int .i64 m] w (Picked w b k m) := by
  have h1' : ∀ v, (w.setCell ⟨b, 1, none⟩ v).cell? ⟨b, 1, none⟩ = some v := fun v => World.cell?_setCell_same _ _ _ h1
  have h0' : ∀ v, (w.setCell ⟨b, 1, none⟩ v).cell? ⟨b, 0, none⟩ = some (.slice (some ⟨blk, off, none⟩) n c) := fun v => (World.cell?_setCell_other _ _ _ _ (by simp)).trans h0
  have hza : ∀ v, (w.setCell ⟨b, 1, none⟩ v).cell? ⟨blk, off + i1, none⟩ = some (.int .u8 z1) := fun v => cell_far hz1 hne
  have hzb : ∀ v, (w.setCell ⟨b, 1, none⟩ v).cell? ⟨blk, off + i2, none⟩ = some (.int .u8 z2) := fun v => cell_far hz2 hne
  have hmz : decide (m < 1) = false := by simp; omega
  have hnz : ((n : Int) == 0) = false := by simp; omega
  have hkn : ¬ ((k : Int) < (n : Int)) := by omega
  have w1 : IntKind.i64.wrap ((k : Int) * 7) = (k : Int) * 7 := IntWalk.i64_in _ (by omega)
  have w2 : IntKind.i64.wrap ((k : Int) * 7 + 3) = (k : Int) * 7 + 3 := IntWalk.i64_in _ (by omega)
  clear hz1 hz2 hne
  go_enter Tryd.func23, Tryd.ntmps23
  go_wp2
  go_quiet (fail)
  go_wp2
  go_ret
  have hx := i64_xor_pos (z1 * 131 + z2 * 1117 + (k : Int) * 29 + q * 53) ((z1 * 131 + z2 * 1117 + (k : Int) * 29 + q * 53) / 64) (by omega) (by omega) (by omega) (by omega)
  have ht := Int.tmod_eq_emod_of_nonneg (b := m) hx
  refine ⟨_, _, ?_, ?_, rfl, drewN_is_drw _⟩
  · rw [ht]; exact Int.emod_nonneg _ (by omega)
  · rw [ht]; exact Int.emod_lt_of_pos _ (by omega)

theorem pick_any (b : Nat) (a : Option Addr) (n c : Nat) (p m : Int) (w : World) (hr : Rd w b a n c p) (hp : 0 ≤ p) (hp1 : p ≤ 1000000) (hm : 1 ≤ m) (hm1 : m ≤ 1000000) :
    Calls Tryd.prog 23 #[.pointer (some ⟨b, 0, none⟩), .int .i64 m] w (Picked w b p m) := by
  rcases hr.bytes with rfl | ⟨blk, off, rfl, hne, hz⟩
  · exact pick_zero b a c p m w hr hp hp1 hm hm1
  · obtain ⟨k, rfl⟩ := Int.eq_ofNat_of_zero_le hp
    obtain ⟨h0, h1, hf, hn, _⟩ := hr
    by_cases hn0 : n = 0
    · subst hn0
      exact pick_zero b _ c _ m w ⟨h0, h1, hf, hn, .inl rfl⟩ hp hp1 hm hm1
    · by_cases hk : k < n
      · obtain ⟨z, z0, z1, hc⟩ := hz k hk
        exact pick_in b blk off n c k z m w h0 h1 hf hk hn z0 z1 hne hc hm hm1
      · obtain ⟨z1, b1, b2, hc1⟩ := hz (k % n) (Nat.mod_lt _ (by omega))
        obtain ⟨z2, b3, b4, hc2⟩ := hz ((k * 7 + 3) % n) (Nat.mod_lt _ (by omega))
        have l1 := Nat.mod_lt k (y := n) (by omega)
        have l2 := Nat.mod_lt (k * 7 + 3) (y := n) (by omega)
        refine pick_past b blk off n c k (k % n) ((k * 7 + 3) % n) z1 z2 ((k / n : Nat) : Int) m w h0 h1 hf (by omega) (by omega) (by omega) hn hne hc1 hc2 ?_ ?_ ?_ (Int.natCast_nonneg _) ?_ (by omega) (by omega) b1 b2 b3 b4 hm hm1
        · rw [Int.tmod_eq_emod_of_nonneg (by omega)]; simp
        · rw [Int.tmod_eq_emod_of_nonneg (by omega)]; simp
        · rw [Int.tdiv_eq_ediv_of_nonneg (by omega)]; simp
        · have := Nat.div_le_self k n; omega

theorem pick2_any (b : Nat) (a : Option Addr) (n c : Nat) (p : Int) (w : World) (hr : Rd w b a n c p) (hp : 0 ≤ p) (hp1 : p ≤ 1000000) :
    Calls Tryd.prog 23 #[.pointer (some ⟨b, 0, none⟩), .int .i64 2] w fun e w' => ∃ (x : Int) (d : Nat), (x = 0 ∨ x = 1) ∧ e = .returned (.int .i64 x) ∧ w' = drw (w.setCell ⟨b, 1, none⟩ (.int .i64 (p + 1))) d :=
  (pick_any b a n c p 2 w hr hp hp1 (by omega) (by omega)).mono fun _ _ ⟨x, d, h0, h1, h2, h3⟩ => ⟨x, d, by omega, h2, h3⟩
theorem pick3_any (b : Nat) (a : Option Addr) (n c : Nat) (p : Int) (w : World) (hr : Rd w b a n c p) (hp : 0 ≤ p) (hp1 : p ≤ 1000000) :
    Calls Tryd.prog 23 #[.pointer (some ⟨b, 0, none⟩), .int .i64 3] w fun e w' => ∃ (x : Int) (d : Nat), (x = 0 ∨ x = 1 ∨ x = 2) ∧ e = .returned (.int .i64 x) ∧ w' = drw (w.setCell ⟨b, 1, none⟩ (.int .i64 (p + 1))) d :=
  (pick_any b a n c p 3 w hr hp hp1 (by omega) (by omega)).mono fun _ _ ⟨x, d, h0, h1, h2, h3⟩ => ⟨x, d, by omega, h2, h3⟩

theorem Bytes.le {w : World} {b : Nat} {a : Option Addr} {n n' : Nat} (h : Bytes w b a n) (hn : n' ≤ n) : Bytes w b a n' := by
  rcases h with rfl | ⟨blk, off, ha, hb, hz⟩
  · exact .inl (by omega)
  · exact .inr ⟨blk, off, ha, hb, fun i hi => hz i (by omega)⟩

/-- The reader over a code: a new block. -/
def Opened (w : World) (a : Option Addr) (e : Ending) (w' : World) : Prop :=
  ∃ n c, n ≤ 2000 ∧ Bytes w w.heap.size a n ∧ e = .returned (.pointer (some ⟨w.heap.size, 0, none⟩)) ∧ w' = w.alloc (.cells #[.slice a n c, .int .i64 0] 45)

set_option maxHeartbeats 400000 in
theorem open_any (a : Option Addr) (n c : Nat) (w : World) (hb : Bytes w w.heap.size a n) (hnc : n ≤ c) (hc : c ≤ maxLen) :
    Calls Tryd.prog 10 #[.slice a n c] w (Opened w a) := by
  unfold maxLen at hc
  by_cases h : n ≤ 2000
  · go_enter Tryd.func10, Tryd.ntmps10
    go_wp2
    go_ret
    exact ⟨n, c, h, hb, rfl, rfl⟩
  · have h2 : 2000 < n := by omega
    go_enter Tryd.func10, Tryd.ntmps10
    go_wp2
    go_ret
    exact ⟨2000, c, by omega, hb.le (by omega), rfl, rfl⟩



/-- The reader has gone on to some place from p to p + k; the rest is new blocks. -/
def Gone (w : World) (b : Nat) (p : Int) (k : Int) (w' : World) : Prop := ∃ p', p ≤ p' ∧ p' ≤ p + k ∧ ∃ os d, w' = plus (w.setCell ⟨b, 1, none⟩ (.int .i64 p')) os d
theorem gone {w w' : World} {b : Nat} {p k : Int} (p' : Int) (h1 : p ≤ p') (h2 : p' ≤ p + k) (h : Below (w.setCell ⟨b, 1, none⟩ (.int .i64 p')).heap.size (w.setCell ⟨b, 1, none⟩ (.int .i64 p')) w') : Gone w b p k w' :=
  ⟨p', h1, h2, plus_of_below h⟩


set_option maxHeartbeats 400000 in
theorem alive_any (w : World) : Calls Tryd.prog 8 #[] w fun e w' => e = .returned (.bool true) ∧ w = w' := by
  have h1 : (-1 : Int).tmod 360 = -1 := by decide
  go_enter Tryd.func8, Tryd.ntmps8
  go_wp2
  go_ret
  exact ⟨rfl, rfl⟩


/-- A list of integers from lo to hi, at a place within it. -/
theorem sel_list (zs : List Int) (lo hi : Int) (hz : ∀ z ∈ zs, lo ≤ z ∧ z ≤ hi) (x : Int) (h0 : 0 ≤ x) (h1 : x < zs.length) :
    ∃ y, lo ≤ y ∧ y ≤ hi ∧ ∀ h : x.toNat < (zs.map (Value.int .i64)).length, (zs.map (Value.int .i64))[x.toNat]'h = .int .i64 y := by
  have hl : x.toNat < zs.length := by omega
  have hm := hz _ (List.getElem_mem hl)
  exact ⟨zs[x.toNat], hm.1, hm.2, fun h => by simp⟩

end Go.Proofs.YtnanipehcikcjaaDoor
