/-
  Contracts of the small functions that orders of finishing robots reach. Conditions: those that each theorem states.
-/
import Derived.Test.YtlahgikhndjfoaaFoP
import Derived.Test.YtlahgikhndjfoaaClV2
namespace Go.Proofs.Ytlahgikhndjfoaa
open Go.RowKit

theorem enB_f {zs now : List Int} {j : Nat} (hj : j < now.length) (h : now.getD j 0 < zs.getD j 0) : enB zs now = false :=
  allB_f hj (by simpa using h)
theorem enB_t {zs now : List Int} (h : ∀ j, j < now.length → zs.getD j 0 ≤ now.getD j 0) : enB zs now = true :=
  allB_t.2 fun j hj => by simpa using h j hj

set_option maxHeartbeats 1000000 in
theorem atMost_any (a1 a2 : Option Addr) (n c1 c2 : Nat) (zs now : List Int) (w : World) (h1 : n = zs.length) (h2 : n = now.length) (i1 : Ints w a1 zs) (i2 : Ints w a2 now) (hn : n ≤ 1000000000) :
    Calls Try.prog 30 #[.slice a1 n c1, .slice a2 n c2] w fun e w' => e = .returned (.bool (enB zs now)) ∧ Up w w' := by
  have I1 := Lib.hid i1
  have I2 := Lib.hid i2
  have H1 := Lib.hid h1
  have H2 := Lib.hid h2
  clear i1 i2 h1 h2
  go_enter Try.func30, Try.ntmps30
  go_wp2
  go_loopw [8] (fun iv wr => ∃ j : Nat, j ≤ n ∧ iv = .int .i64 j ∧ Hid (∀ i, i < j → zs.getD i 0 ≤ now.getD i 0) ∧ ∃ d, wr = drw w d) (fun iv _ => n - (intOf iv).toNat)
  case atStart => exact ⟨0, Nat.zero_le _, rfl, fun i hi => absurd hi (Nat.not_lt_zero _), _, drw_id⟩
  case round =>
    obtain ⟨j, hj, rfl, HP, d, rfl⟩ := hrel
    by_cases hlt : j < n
    · have hlt' : (j : Int) < (n : Int) := by omega
      rcases I1.out with h0 | ⟨b1, o1, rfl, g1⟩
      · have := H1.out; rw [h0] at this; simp at this; omega
      rcases I2.out with h0 | ⟨b2, o2, rfl, g2⟩
      · have := H2.out; rw [h0] at this; simp at this; omega
      have e1 := g1 j (by rw [← H1.out]; exact hlt)
      have e2 := g2 j (by rw [← H2.out]; exact hlt)
      clear g1 g2
      have HX : Hid (now.getD j 0 < zs.getD j 0 → enB zs now = false) := fun h => enB_f (by rw [← H2.out]; exact hlt) h
      have HY : Hid (zs.getD j 0 ≤ now.getD j 0 → ∀ i, i < j + 1 → zs.getD i 0 ≤ now.getD i 0) := fun h i hi => by
        by_cases hij : i = j
        · subst hij; exact h
        · exact HP.out i (by omega)
      generalize zs.getD j 0 = x at e1 HX HY
      generalize now.getD j 0 = y at e2 HX HY
      by_cases hxy : y < x
      · go_wp2
        go_quiet (fail)
        go_wp2
        go_ret
        exact ⟨by rw [HX.out hxy]; rfl, up_of_below (by repeat (first | with_reducible exact Below.refl _ _ | with_reducible apply below_alloc | with_reducible apply below_drw | with_reducible apply below_drew | with_reducible apply below_drewN | with_reducible apply below_plus | with_reducible apply below_set | (simp; done)))⟩
      · have hxy' : decide (y < x) = false := decide_eq_false hxy
        go_wp2
        go_quiet (fail)
        go_wp2
        go_roundw
        case rel => exact ⟨j + 1, by omega, by go_num, HY.out (by omega), _, rfl⟩
        case measure => simp [intOf]; omega
    · have hlt' : ¬ (j : Int) < (n : Int) := by omega
      obtain rfl : j = n := by omega
      go_wp2
      go_ret
      exact ⟨by rw [enB_t (by rw [← H2.out]; exact HP.out)]; rfl, up_of_below (by repeat (first | with_reducible exact Below.refl _ _ | with_reducible apply below_alloc | with_reducible apply below_drw | with_reducible apply below_drew | with_reducible apply below_drewN | with_reducible apply below_plus | with_reducible apply below_set | (simp; done)))⟩

set_option maxHeartbeats 1000000 in
theorem canF1_any (x1 x2 a : Option Addr) (l1 l2 c1 c2 k kc fb : Nat) (z2 now : List Int) (w : World) (h2 : l2 = z2.length) (hk : k = now.length) (hlk : l2 = k) (i2 : Ints w x2 z2) (hn : Ints w a now) (m2 : k ≤ 1000000000)
    (hf : w.cell? ⟨fb, 0, none⟩ = some (.slice a k kc)) :
    Calls Try.prog 29 #[.agg #[.slice x1 l1 c1, .slice x2 l2 c2], .pointer (some ⟨fb, 0, none⟩)] w fun e w' => e = .returned (.bool (enB z2 now)) ∧ Up w w' := by
  subst hlk
  have hb := World.block_lt_of_cell? _ _ hf
  simp only at hb
  have HA := Lib.hid (fun W (h : Below w.heap.size w W) => atMost_any x2 a l2 c2 kc z2 now W h2 hk (i2.below h) (hn.below h) m2)
  clear i2 hn h2 hk
  go_enter Try.func29, Try.ntmps29
  go_wp2_with fail
  refine (HA.out _ (by repeat (first | with_reducible exact Below.refl _ _ | with_reducible apply below_alloc | with_reducible apply below_drw | with_reducible apply below_drew | with_reducible apply below_drewN | with_reducible apply below_plus | with_reducible apply below_set | (simp; done)))).mono ?_
  rintro e w' ⟨rfl, os, d, rfl⟩
  go_wp2
  go_ret
  exact ⟨rfl, up_of_below (by repeat (first | with_reducible exact Below.refl _ _ | with_reducible apply below_alloc | with_reducible apply below_drw | with_reducible apply below_drew | with_reducible apply below_drewN | with_reducible apply below_plus | with_reducible apply below_set | (simp; done)))⟩
theorem canF1_enters (args : Array Value) (w : World) : (callFunc 29 args).run Try.prog w = .ok (.enter 29 args) w := (enters_of Try.func29 (by kernel_rfl) rfl) args w

/-- The first that has enough. -/
def FoundcanF1 (rs : List (List Int)) (now : List Int) (n : Nat) (w : World) (e : Ending) (w' : World) : Prop :=
  ∃ r : Int, e = .returned (.int .i64 r) ∧ ((r = -1 ∧ ∀ i, i < n → enB (need rs i) now = false) ∨ ∃ j : Nat, r = j ∧ j < n ∧ enB (need rs j) now = true ∧ ∀ i, i < j → enB (need rs i) now = false) ∧ Up w w'

set_option maxHeartbeats 1000000 in
theorem indexcanF1_any (a fa : Option Addr) (n c k kc fb : Nat) (rs : List (List Int)) (now : List Int) (w : World) (hz : rs.length = n * 2) (hi : Grid w a rs) (hm : ∀ i, i < n → (need rs i).length = k) (hn : n ≤ 1000000000) (hk : k = now.length) (hk1 : k ≤ 1000000000) (hni : Ints w fa now) (hf : w.cell? ⟨fb, 0, none⟩ = some (.slice fa k kc)) :
    Calls Try.prog 28 #[.slice a n c, .func (.func 29) #[] #[.pointer (some ⟨fb, 0, none⟩)]] w (FoundcanF1 rs now n w) := by
  have HI := Lib.hid hi
  have HZ := Lib.hid hz
  have HM := Lib.hid hm
  have HK := Lib.hid hk
  have HN := Lib.hid hni
  have eg := canF1_enters
  have hb := World.block_lt_of_cell? _ _ hf
  simp only at hb
  have HF := Lib.hid hf
  clear hi hz hm hf hk hni
  go_enter Try.func28, Try.ntmps28
  go_wp2
  go_loopw [8] (fun iv wr => ∃ j : Nat, j ≤ n ∧ iv = .int .i64 j ∧ Hid (∀ i, i < j → enB (need rs i) now = false) ∧ ∃ os d, wr = plus w os d) (fun iv _ => n - (intOf iv).toNat)
  case atStart => exact ⟨0, Nat.zero_le _, rfl, fun i hi => absurd hi (Nat.not_lt_zero _), #[], _, plus_id.symm⟩
  case round =>
    obtain ⟨j, hj, rfl, HP, os, d, rfl⟩ := hrel
    by_cases hlt : j < n
    · have hlt' : (j : Int) < (n : Int) := by omega
      obtain ⟨blk, off, x1, c1, x2, c2, rfl, hbk, d1, d2, _, _, r1, _, _, r2⟩ := HI.out.claim HZ.out hlt
      have HBad := Lib.hid (fun W (h : Below w.heap.size w W) => canF1_any x1 x2 fa (hold rs j).length (need rs j).length c1 c2 k kc fb (need rs j) now W rfl HK.out (HM.out j hlt) (r2.below h) (HN.out.below h) hk1 ((h.cell (p := ⟨fb, 0, none⟩) hb).trans HF.out))
      clear r1 r2
      generalize (hold rs j).length = l1 at d1 HBad
      generalize (need rs j).length = l2 at d2 HBad
      cases hq : enB (need rs j) now <;> rw [hq] at HBad
      · have HY := Lib.hid hq
        clear hq
        go_wp2_with (first | (go_at_call 29; refine (HBad.out _ (by repeat (first | with_reducible exact Below.refl _ _ | with_reducible apply below_alloc | with_reducible apply below_drw | with_reducible apply below_drew | with_reducible apply below_drewN | with_reducible apply below_plus | with_reducible apply below_set | (simp; done)))).mono ?_; rintro e w1 ⟨rfl, os, d, rfl⟩))
        go_roundw
        case rel =>
          refine ⟨j + 1, by omega, by go_num, fun i hi => ?_, _, _, rfl⟩
          by_cases hij : i = j
          · subst hij; exact HY.out
          · exact HP.out i (by omega)
        case measure => simp [intOf]; omega
      · have HY := Lib.hid hq
        clear hq
        go_wp2_with (first | (go_at_call 29; refine (HBad.out _ (by repeat (first | with_reducible exact Below.refl _ _ | with_reducible apply below_alloc | with_reducible apply below_drw | with_reducible apply below_drew | with_reducible apply below_drewN | with_reducible apply below_plus | with_reducible apply below_set | (simp; done)))).mono ?_; rintro e w1 ⟨rfl, os, d, rfl⟩))
        go_ret
        exact ⟨j, rfl, .inr ⟨j, rfl, hlt, HY.out, HP.out⟩, _, _, rfl⟩
    · have hlt' : ¬ (j : Int) < (n : Int) := by omega
      obtain rfl : j = n := by omega
      go_wp2
      go_ret
      exact ⟨-1, rfl, .inl ⟨rfl, HP.out⟩, _, _, rfl⟩

set_option maxHeartbeats 1000000 in
theorem canF2_any (x1 x2 a : Option Addr) (l1 l2 c1 c2 k kc fb : Nat) (z2 now : List Int) (w : World) (h2 : l2 = z2.length) (hk : k = now.length) (hlk : l2 = k) (i2 : Ints w x2 z2) (hn : Ints w a now) (m2 : k ≤ 1000000000)
    (hf : w.cell? ⟨fb, 0, none⟩ = some (.slice a k kc)) :
    Calls Try.prog 32 #[.agg #[.slice x1 l1 c1, .slice x2 l2 c2], .pointer (some ⟨fb, 0, none⟩)] w fun e w' => e = .returned (.bool (enB z2 now)) ∧ Up w w' := by
  subst hlk
  have hb := World.block_lt_of_cell? _ _ hf
  simp only at hb
  have HA := Lib.hid (fun W (h : Below w.heap.size w W) => atMost_any x2 a l2 c2 kc z2 now W h2 hk (i2.below h) (hn.below h) m2)
  clear i2 hn h2 hk
  go_enter Try.func32, Try.ntmps32
  go_wp2_with fail
  refine (HA.out _ (by repeat (first | with_reducible exact Below.refl _ _ | with_reducible apply below_alloc | with_reducible apply below_drw | with_reducible apply below_drew | with_reducible apply below_drewN | with_reducible apply below_plus | with_reducible apply below_set | (simp; done)))).mono ?_
  rintro e w' ⟨rfl, os, d, rfl⟩
  go_wp2
  go_ret
  exact ⟨rfl, up_of_below (by repeat (first | with_reducible exact Below.refl _ _ | with_reducible apply below_alloc | with_reducible apply below_drw | with_reducible apply below_drew | with_reducible apply below_drewN | with_reducible apply below_plus | with_reducible apply below_set | (simp; done)))⟩
theorem canF2_enters (args : Array Value) (w : World) : (callFunc 32 args).run Try.prog w = .ok (.enter 32 args) w := (enters_of Try.func32 (by kernel_rfl) rfl) args w

/-- The first that has enough. -/
def FoundcanF2 (rs : List (List Int)) (now : List Int) (n : Nat) (w : World) (e : Ending) (w' : World) : Prop :=
  ∃ r : Int, e = .returned (.int .i64 r) ∧ ((r = -1 ∧ ∀ i, i < n → enB (need rs i) now = false) ∨ ∃ j : Nat, r = j ∧ j < n ∧ enB (need rs j) now = true ∧ ∀ i, i < j → enB (need rs i) now = false) ∧ Up w w'

set_option maxHeartbeats 1000000 in
theorem indexcanF2_any (a fa : Option Addr) (n c k kc fb : Nat) (rs : List (List Int)) (now : List Int) (w : World) (hz : rs.length = n * 2) (hi : Grid w a rs) (hm : ∀ i, i < n → (need rs i).length = k) (hn : n ≤ 1000000000) (hk : k = now.length) (hk1 : k ≤ 1000000000) (hni : Ints w fa now) (hf : w.cell? ⟨fb, 0, none⟩ = some (.slice fa k kc)) :
    Calls Try.prog 28 #[.slice a n c, .func (.func 32) #[] #[.pointer (some ⟨fb, 0, none⟩)]] w (FoundcanF2 rs now n w) := by
  have HI := Lib.hid hi
  have HZ := Lib.hid hz
  have HM := Lib.hid hm
  have HK := Lib.hid hk
  have HN := Lib.hid hni
  have eg := canF2_enters
  have hb := World.block_lt_of_cell? _ _ hf
  simp only at hb
  have HF := Lib.hid hf
  clear hi hz hm hf hk hni
  go_enter Try.func28, Try.ntmps28
  go_wp2
  go_loopw [8] (fun iv wr => ∃ j : Nat, j ≤ n ∧ iv = .int .i64 j ∧ Hid (∀ i, i < j → enB (need rs i) now = false) ∧ ∃ os d, wr = plus w os d) (fun iv _ => n - (intOf iv).toNat)
  case atStart => exact ⟨0, Nat.zero_le _, rfl, fun i hi => absurd hi (Nat.not_lt_zero _), #[], _, plus_id.symm⟩
  case round =>
    obtain ⟨j, hj, rfl, HP, os, d, rfl⟩ := hrel
    by_cases hlt : j < n
    · have hlt' : (j : Int) < (n : Int) := by omega
      obtain ⟨blk, off, x1, c1, x2, c2, rfl, hbk, d1, d2, _, _, r1, _, _, r2⟩ := HI.out.claim HZ.out hlt
      have HBad := Lib.hid (fun W (h : Below w.heap.size w W) => canF2_any x1 x2 fa (hold rs j).length (need rs j).length c1 c2 k kc fb (need rs j) now W rfl HK.out (HM.out j hlt) (r2.below h) (HN.out.below h) hk1 ((h.cell (p := ⟨fb, 0, none⟩) hb).trans HF.out))
      clear r1 r2
      generalize (hold rs j).length = l1 at d1 HBad
      generalize (need rs j).length = l2 at d2 HBad
      cases hq : enB (need rs j) now <;> rw [hq] at HBad
      · have HY := Lib.hid hq
        clear hq
        go_wp2_with (first | (go_at_call 32; refine (HBad.out _ (by repeat (first | with_reducible exact Below.refl _ _ | with_reducible apply below_alloc | with_reducible apply below_drw | with_reducible apply below_drew | with_reducible apply below_drewN | with_reducible apply below_plus | with_reducible apply below_set | (simp; done)))).mono ?_; rintro e w1 ⟨rfl, os, d, rfl⟩))
        go_roundw
        case rel =>
          refine ⟨j + 1, by omega, by go_num, fun i hi => ?_, _, _, rfl⟩
          by_cases hij : i = j
          · subst hij; exact HY.out
          · exact HP.out i (by omega)
        case measure => simp [intOf]; omega
      · have HY := Lib.hid hq
        clear hq
        go_wp2_with (first | (go_at_call 32; refine (HBad.out _ (by repeat (first | with_reducible exact Below.refl _ _ | with_reducible apply below_alloc | with_reducible apply below_drw | with_reducible apply below_drew | with_reducible apply below_drewN | with_reducible apply below_plus | with_reducible apply below_set | (simp; done)))).mono ?_; rintro e w1 ⟨rfl, os, d, rfl⟩))
        go_ret
        exact ⟨j, rfl, .inr ⟨j, rfl, hlt, HY.out, HP.out⟩, _, _, rfl⟩
    · have hlt' : ¬ (j : Int) < (n : Int) := by omega
      obtain rfl : j = n := by omega
      go_wp2
      go_ret
      exact ⟨-1, rfl, .inl ⟨rfl, HP.out⟩, _, _, rfl⟩

/-! ### lists of numbers -/
def natI (l : List Nat) : List Int := l.map fun i : Nat => (i : Int)
theorem natI_length (l : List Nat) : (natI l).length = l.length := by simp [natI]
theorem natI_getD {l : List Nat} {i : Nat} (h : i < l.length) : (natI l).getD i 0 = ((l[i]'h : Nat) : Int) := by simp [natI, h]

set_option maxHeartbeats 1000000 in
theorem indexI_any (a : Option Addr) (n c : Nat) (l : List Nat) (x : Nat) (w : World) (hz : n = l.length) (hi : Ints w a (natI l)) (hn : n ≤ 1000000000) :
    Calls Try.prog 44 #[.slice a n c, .int .i64 x] w fun e w' => ∃ r : Int, e = .returned (.int .i64 r) ∧ decide (0 ≤ r) = l.contains x ∧ w = w' := by
  have HI := Lib.hid hi
  have HZ := Lib.hid hz
  clear hi hz
  obtain ⟨q, hq⟩ : ∃ q, q = l.contains x := ⟨_, rfl⟩
  have HQ := Lib.hid hq
  rw [← hq]
  clear hq
  go_enter Try.func44, Try.ntmps44
  go_wp2
  go_loop [8] (fun iv => ∃ j : Nat, j ≤ n ∧ iv = .int .i64 j ∧ Hid (∀ i (h : i < l.length), i < j → l[i] ≠ x)) (fun iv => n - (intOf iv).toNat)
  case atStart => exact ⟨0, Nat.zero_le _, rfl, fun i _ hi => absurd hi (Nat.not_lt_zero _)⟩
  case round =>
    obtain ⟨j, hj, rfl, HP⟩ := hrel
    by_cases hlt : j < n
    · have hlt' : (j : Int) < (n : Int) := by omega
      have hl : j < l.length := by rw [← HZ.out]; exact hlt
      rcases HI.out with h0 | ⟨blk, off, rfl, hc⟩
      · have := natI_length l; rw [h0] at this; simp at this; omega
      have c0 := hc j (by rw [natI_length]; exact hl)
      rw [natI_getD hl] at c0
      clear hc
      by_cases hx : l[j] = x
      · have HC : Hid (q = true) := by show q = true; rw [HQ.out, List.contains_eq_mem, decide_eq_true_eq, ← hx]; exact List.getElem_mem hl
        rw [hx] at c0
        clear hx hl
        go_wp2
        go_ret
        exact ⟨j, rfl, by rw [HC.out]; simp, rfl⟩
      · have hx' : ((x : Int) == ((l[j] : Nat) : Int)) = false := by simp; omega
        have HY := Lib.hid hx
        generalize ((l[j] : Nat) : Int) = y at c0 hx'
        clear hx
        go_wp2
        go_round
        case rel =>
          refine ⟨j + 1, by omega, by go_num, fun i h hi => ?_⟩
          by_cases hij : i = j
          · subst hij; exact HY.out
          · exact HP.out i h (by omega)
        case measure => simp [intOf]; omega
    · have hlt' : ¬ (j : Int) < (n : Int) := by omega
      obtain rfl : j = n := by omega
      have HC : Hid (q = false) := by
        show q = false
        rw [HQ.out, List.contains_eq_mem, decide_eq_false_iff_not]
        intro h
        obtain ⟨i, hi, e⟩ := List.getElem_of_mem h
        exact HP.out i hi (by rw [HZ.out]; exact hi) e
      go_wp2
      go_ret
      exact ⟨-1, rfl, by rw [HC.out]; rfl, rfl⟩

set_option maxHeartbeats 400000 in
theorem containsI_any (a : Option Addr) (n c : Nat) (l : List Nat) (x : Nat) (w : World) (hz : n = l.length) (hi : Ints w a (natI l)) (hn : n ≤ 1000000000) :
    Calls Try.prog 31 #[.slice a n c, .int .i64 x] w fun e w' => e = .returned (.bool (l.contains x)) ∧ w = w' := by
  have H := Lib.hid (indexI_any a n c l x w hz hi hn)
  clear hz hi
  generalize l.contains x = q at H ⊢
  go_enter Try.func31, Try.ntmps31
  go_wp2_with (first | (go_at_call 44; refine H.out.mono ?_; rintro e w1 ⟨r, rfl, hr, rfl⟩))
  all_goals
    go_ret
    exact ⟨by rw [← hr]; simp_all, rfl⟩

/-- append(list, other...). -/
theorem wpList_appI {ops : Array Oper} {rest : List Oper} {o : Oper} {a : Act} {w : World} {Q : Exit → Act → World → Prop} (hgd : o.guard = none) (s x : Operand)
    (ho : o.op = .call { callee := .builtin .append, args := #[s, x], argTypes := #[24, 24] }) (B : Nat) (v : Value) (zs : List Int) (hs : a.eval s = v) (hown : Own w B v zs) (g off m c : Nat) (us : List Int)
    (hx : a.eval x = .slice (some ⟨g, off, none⟩) m c) (hu : Ints w (some ⟨g, off, none⟩) us) (hul : us.length = m) (hlen : zs.length + m ≤ 1000000000) (hB : B ≤ w.heap.size)
    (h : ∀ v' w', Own w' B v' (zs ++ us) → w.grownBy w' v.ownBlock → wpList Try.prog ops Q rest (a.put o.dst v') w') : wpList Try.prog ops Q (o :: rest) a w := by
  obtain ⟨i0, hi, hz0, hz1, hz2⟩ := info_parts info_int
  refine wpList_append_own _ hgd s x 24 ho B 3 i0 (.int .i64 0) 1 8 Try.underlying24 hi hz0 hz1 hz2 rfl (by decide) v zs.length _ hs hown ⟨g, off, none⟩ m c (us.map (Value.int .i64)) hx (by simp [hul]) ?_ ?_ ?_ ?_ hB ?_
  · intro j u hj
    rw [List.getElem?_map] at hj
    obtain ⟨z, hz, rfl⟩ := Option.map_eq_some_iff.1 hj
    have hjl := (List.getElem?_eq_some_iff.1 hz).1
    rcases hu with h0 | ⟨b', o', e, hc⟩
    · rw [h0] at hjl; simp at hjl
    · simp only [Option.some.injEq, Addr.mk.injEq, and_true] at e
      obtain ⟨rfl, rfl⟩ := e
      rw [addr_add, hc j hjl, List.getD_eq_getElem?_getD, hz]
      rfl
  · intro u hu; obtain ⟨z, _, rfl⟩ := List.mem_map.1 hu; rfl
  · unfold maxLen; omega
  · omega
  · intro v' w' h1 h2 _
    refine h v' w' ?_ h2
    unfold Own
    simpa [hul] using h1

set_option maxHeartbeats 1000000 in
theorem clone_any (g off k c : Nat) (zs : List Int) (w : World) (hz : k = zs.length) (hi : Ints w (some ⟨g, off, none⟩) zs) (hn : k ≤ 1000000000) :
    Calls Try.prog 27 #[.slice (some ⟨g, off, none⟩) k c] w (Made w zs) := by
  have HI := Lib.hid hi
  have HZ := Lib.hid hz
  clear hi hz
  have qT : ∀ (w : World) (n c : Nat), (binOp .eql 24 (.slice (some ⟨g, off, none⟩) n c) (.slice none 0 0)).run Try.prog w = .ok (.bool false) w := fun w n c => Lib.run_eql_slice_nil w _ _ _ _ _ _ _ Try.underlying24
  go_enter Try.func27, Try.ntmps27
  go_wp2_with (at_builtin; refine wpList_appI rfl _ _ rfl w.heap.size _ [] rfl (Own.made w w.heap.size (Nat.le_refl _)) g off k c zs rfl (HI.out.below ((Below.refl _ _).alloc (Nat.le_refl _) _)) HZ.out.symm (by simp; omega) (by simp) ?_; intro v1 w1 hown hgrow; rw [List.nil_append] at hown; obtain ⟨a', c', rfl, _⟩ := hown.form)
  go_ret
  exact made hown (((Below.refl _ _).alloc (Nat.le_refl _) _).grown hgrow (by simp) (fun g hg => ((Own.made w w.heap.size (Nat.le_refl _)).lt g hg).1))

end Go.Proofs.Ytlahgikhndjfoaa
