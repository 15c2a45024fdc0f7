/-
  Contracts of the exact laws' helpers that make lists of claims. Conditions: those that each theorem states.
-/
import Derived.Test.YtlahgikhndjfoaaClS
import Derived.Test.YtlahgikhndjfoaaLast
import Derived.Shelf.Abstract
namespace Go.Proofs.Ytlahgikhndjfoaa
set_option linter.unusedSimpArgs false
open Go.RowKit

/-- A call makes a claim. -/
def MadeC (w : World) (z1 z2 : List Int) (e : Ending) (w' : World) : Prop := ∃ a1 d1 a2 d2, e = .returned (.agg #[.slice a1 z1.length d1, .slice a2 z2.length d2]) ∧ Own w' w.heap.size (.slice a1 z1.length d1) z1 ∧ Own w' w.heap.size (.slice a2 z2.length d2) z2 ∧ Below w.heap.size w w'

set_option maxHeartbeats 1000000 in
theorem toClaim_any (x1 x2 : Option Addr) (l1 l2 c1 c2 : Nat) (z1 z2 : List Int) (w : World) (h1 : l1 = z1.length) (h2 : l2 = z2.length) (m1 : l1 ≤ 1048576) (m2 : l2 ≤ 1048576) (i1 : Ints w x1 z1) (i2 : Ints w x2 z2) :
    Calls Try.prog 38 #[.agg #[.slice x1 l1 c1, .slice x2 l2 c2]] w (MadeC w z1 z2) := by
  have H1 := Lib.hid (fun W (h : Below w.heap.size w W) => toIntS_any x1 l1 c1 z1 W h1 (i1.below h) m1)
  have H2 := Lib.hid (fun W (h : Below w.heap.size w W) => toIntS_any x2 l2 c2 z2 W h2 (i2.below h) m2)
  clear i1 i2 h1 h2
  go_enter Try.func38, Try.ntmps38
  go_wp2_with fail
  refine (H1.out _ (by repeat (first | with_reducible exact Below.refl _ _ | with_reducible apply below_alloc | with_reducible apply below_drw | with_reducible apply below_drew | with_reducible apply below_drewN | with_reducible apply below_plus | with_reducible apply below_set | (simp; done)))).mono ?_
  rintro e w1 ⟨b1, d1, rfl, HO1, hup⟩
  obtain ⟨os1, n1, rfl⟩ := plus_of_below hup
  have HO1 := Lib.hid HO1
  clear hup
  obtain ⟨k1, hk1⟩ : ∃ k, k = z1.length := ⟨_, rfl⟩
  have K1 := Lib.hid hk1.symm
  rw [← hk1] at HO1 ⊢
  clear hk1
  go_wp2_with fail
  refine (H2.out _ (by repeat (first | with_reducible exact Below.refl _ _ | with_reducible apply below_alloc | with_reducible apply below_drw | with_reducible apply below_drew | with_reducible apply below_drewN | with_reducible apply below_plus | with_reducible apply below_set | (simp; done)))).mono ?_
  rintro e w1 ⟨b2, d2, rfl, HO2, hup⟩
  obtain ⟨os2, n2, rfl⟩ := plus_of_below hup
  have HO2 := Lib.hid HO2
  clear hup
  obtain ⟨k2, hk2⟩ : ∃ k, k = z2.length := ⟨_, rfl⟩
  have K2 := Lib.hid hk2.symm
  rw [← hk2] at HO2 ⊢
  clear hk2
  go_wp2
  refine bodyPost_ret (v := .agg #[.slice b1 k1 d1, .slice b2 k2 d2]) (by simp [results, Try.results38, go_sem]) rfl ⟨b1, d1, b2, d2, by rw [K1.out, K2.out], ?_, ?_, ?_⟩
  · rw [K1.out]; refine Own.more (Own.rebase HO1.out (by simp [go_sem]) (by simp [go_sem])) (by simp [go_sem])
  · have := HO2.out
    rw [K2.out]
    rw [plus_plus] at this
    refine Own.more (Own.rebase (os2 := #[]) this (by simp [go_sem]) (by simp [go_sem])) (by simp [go_sem])
  · repeat (first | with_reducible exact Below.refl _ _ | with_reducible apply below_alloc | with_reducible apply below_drw | with_reducible apply below_drew | with_reducible apply below_drewN | with_reducible apply below_plus | with_reducible apply below_set | (simp; done))

/-- A call makes a list of claims. -/
def MadeCs (w : World) (n : Nat) (rs : List (List Int)) (e : Ending) (w' : World) : Prop := ∃ a c, e = .returned (.slice a n c) ∧ OwnC w' w.heap.size (.slice a n c) n rs ∧ Below w.heap.size w w'

theorem claim_enters (args : Array Value) (w : World) : (callFunc 39 args).run Try.prog w = .ok (.enter 39 args) w := (enters_of Try.func39 (by kernel_rfl) rfl) args w

/-- A round of 'toClaimS': one claim more. -/
theorem round_claims {wr : World} {B g n j os_d : Nat} {us : List Value} {rs : List (List Int)} {os : Array Obj} {u1 u2 : Value} (hg : B ≤ wr.heap.size) (HO : wr.ownsRow B 34 2 (.slice (some ⟨g, 0, none⟩) n n) n us) (hj : j < n)
    (HR : ∀ i, i < j * 2 → Own wr B (us.getD i undef) (rs.getD i [])) (h1 : Own (plus wr os os_d) wr.heap.size u1 (hold rs j)) (h2 : Own (plus wr os os_d) wr.heap.size u2 (need rs j)) :
    (plus ((wr.setCell ⟨g, j * 2, none⟩ u1).setCell ⟨g, j * 2 + 1, none⟩ u2) os os_d).ownsRow B 34 2 (.slice (some ⟨g, 0, none⟩) n n) n ((us.set (j * 2) u1).set (j * 2 + 1) u2) ∧
    (∀ i, i < (j + 1) * 2 → Own (plus ((wr.setCell ⟨g, j * 2, none⟩ u1).setCell ⟨g, j * 2 + 1, none⟩ u2) os os_d) B (((us.set (j * 2) u1).set (j * 2 + 1) u2).getD i undef) (rs.getD i [])) ∧
    wr.grownBy ((wr.setCell ⟨g, j * 2, none⟩ u1).setCell ⟨g, j * 2 + 1, none⟩ u2) (some g) := by
  have M1 := HO.stored (j * 2) u1
  have M2 := M1.1.stored (j * 2 + 1) u2
  have hl : us.length = n * 2 := HO.1
  have hs : ((wr.setCell ⟨g, j * 2, none⟩ u1).setCell ⟨g, j * 2 + 1, none⟩ u2).heap.size = wr.heap.size := by simp [go_sem]
  refine ⟨ownsRow_below M2.1 (below_plus (Below.refl _ _) _ _), fun i hi => ?_, grown_trans M1.2 M2.2⟩
  have e : ∀ {u zs}, Own (plus wr os os_d) wr.heap.size u zs → Own (plus ((wr.setCell ⟨g, j * 2, none⟩ u1).setCell ⟨g, j * 2 + 1, none⟩ u2) os os_d) B u zs := fun h => by
    have := Own.rebase (os2 := #[]) (d' := os_d) h (Nat.le_refl _) hs
    rw [Array.append_empty] at this
    exact this.more hg
  by_cases hi2 : i = j * 2 + 1
  · subst hi2
    rw [show ((us.set (j * 2) u1).set (j * 2 + 1) u2).getD (j * 2 + 1) undef = u2 by simp [List.getD_eq_getElem?_getD, show j * 2 + 1 < us.length by omega]]
    exact e h2
  by_cases hi1 : i = j * 2
  · subst hi1
    rw [show ((us.set (j * 2) u1).set (j * 2 + 1) u2).getD (j * 2) undef = u1 by simp [List.getD_eq_getElem?_getD, show j * 2 < us.length by omega]]
    exact e h1
  · rw [show ((us.set (j * 2) u1).set (j * 2 + 1) u2).getD i undef = us.getD i undef by
      simp only [List.getD_eq_getElem?_getD, List.getElem?_set]
      rw [if_neg (by omega), if_neg (by omega)]]
    have h := HR i (by omega)
    exact ((h.beside HO M1.2).beside M1.1 M2.2).plus _ _

set_option maxHeartbeats 1000000 in
theorem toClaimS_any (a : Option Addr) (n c : Nat) (rs : List (List Int)) (w : World) (hz : rs.length = n * 2) (hi : Grid w a rs) (hn : n ≤ 1048576) (hm : ∀ i, i < n → (hold rs i).length ≤ 1048576 ∧ (need rs i).length ≤ 1048576) :
    Calls Try.prog 19 #[.slice a n c] w (MadeCs w n rs) := by
  obtain ⟨i0, hi0, hz0, hz1, hz2⟩ := info_parts infoC
  have HI := Lib.hid hi
  have HZ := Lib.hid hz
  have HM := Lib.hid hm
  clear hi hz hm
  go_enter Try.func19, Try.ntmps19
  go_wp2_with (first | (at_make; go_loud (refine wpList_make_full _ rfl _ _ 23 rfl w.heap.size 34 i0 _ 2 Try.underlying23 hi0 hz0 hz1 .i64 .i64 n n n rfl rfl rfl rfl (by rw [hz2]; omega) (by unfold maxLen; omega) (Nat.le_refl _) ?_); intro w1 hown hgrow))
  have hB1 : Below w.heap.size w w1 := (Below.refl _ w).grown hgrow (Nat.le_refl _) (by simp)
  have HO1 := Lib.hid hown
  have HB1 := Lib.hid hB1
  clear hown hgrow hB1
  generalize (madeCells (Value.agg #[.slice none 0 0, .slice none 0 0]).cells (n * 2)).toList = us0 at HO1
  go_wp2
  go_loopw [4] (fun iv wr => ∃ (j : Nat) (us : List Value), j ≤ n ∧ iv = .int .i64 j ∧ Hid (wr.ownsRow w.heap.size 34 2 (.slice (some ⟨w.heap.size, 0, none⟩) n n) n us) ∧ Hid (∀ i, i < j * 2 → Own wr w.heap.size (us.getD i undef) (rs.getD i [])) ∧ Hid (Below w.heap.size w wr)) (fun iv _ => n - (intOf iv).toNat)
  case atStart => exact ⟨0, us0, Nat.zero_le _, rfl, HO1, fun i hi => by omega, HB1⟩
  case round =>
    obtain ⟨j, us, hj, rfl, HO, HR, HB⟩ := hrel
    by_cases hlt : j < n
    · have hlt' : (j : Int) < (n : Int) := by omega
      obtain ⟨blk, off, x1, c1, x2, c2, rfl, hbk, d1, d2, _, _, r1, _, _, r2⟩ := (HI.out.below HB.out).claim HZ.out hlt
      have HC := Lib.hid (toClaim_any x1 x2 (hold rs j).length (need rs j).length c1 c2 (hold rs j) (need rs j) wr rfl rfl (HM.out j hlt).1 (HM.out j hlt).2 r1 r2)
      have hl : us.length = n * 2 := HO.out.1
      have bg := (HO.out.lt w.heap.size rfl).2
      have t0 := HO.out.cellAt (j * 2) (by omega)
      have t1 := HO.out.cellAt (j * 2 + 1) (by omega)
      rw [List.getElem?_eq_getElem (by omega)] at t0 t1
      have f0 := HO.out.frozenAt (j * 2)
      have f1 := HO.out.frozenAt (j * 2 + 1)
      generalize us[j * 2] = v0 at t0
      generalize us[j * 2 + 1] = v1 at t1
      clear r1 r2 hl
      generalize (hold rs j).length = l1 at d1 HC
      generalize (need rs j).length = l2 at d2 HC
      go_wp2_with fail
      refine HC.out.mono ?_
      rintro e w1 ⟨y1, k1, y2, k2, rfl, h1, h2, hup⟩
      obtain ⟨os, d, rfl⟩ := plus_of_below hup
      have HN := Lib.hid (round_claims HB.out.size HO.out hlt HR.out h1 h2)
      clear h1 h2 hup HC
      go_wp2
      go_roundw
      case rel =>
        exact ⟨j + 1, _, by omega, by go_num, HN.out.1, HN.out.2.1, below_plus (HB.out.grown HN.out.2.2 HB.out.size (by intro k hk; simp at hk; omega)) _ _⟩
      case measure => simp [intOf]; omega
    · have hlt' : ¬ (j : Int) < (n : Int) := by omega
      obtain rfl : j = n := by omega
      go_wp2
      go_ret
      exact ⟨_, _, rfl, ⟨us, HO.out, HZ.out, HR.out⟩, HB.out⟩

theorem pure_loadC {w0 : World} {A : Act} {o : Oper} (x : Operand) (r i : Nat) (x0 x1 : Value) (h : o.op = .load 34 x) (hx : A.eval x = .pointer (some ⟨r, i, none⟩)) (hr : r < w0.heap.size) (h0 : w0.cell? ⟨r, i, none⟩ = some x0) (h1 : w0.cell? ⟨r, i + 1, none⟩ = some x1) (hv : gd A (o.dst.getD 0) = .agg #[x0, x1])
    (k0 : ∃ a n c, x0 = .slice a n c) (k1 : ∃ a n c, x1 = .slice a n c) : PureStep Try.prog w0 A o := by
  obtain ⟨a0, n0, c0, rfl⟩ := k0
  obtain ⟨a1, n1, c1, rfl⟩ := k1
  refine pure_quiet fun a os d hg => ?_
  have gx := (hg x (by simp [h, Op.operands])).trans hx
  rw [hv]
  have e0 : (plus w0 os d).cell? ⟨r, i, none⟩ = some (.slice a0 n0 c0) := (plus_cell r i hr).trans h0
  have e1 : (plus w0 os d).cell? ⟨r, i + 1, none⟩ = some (.slice a1 n1 c1) := (plus_cell r (i + 1) hr).trans h1
  generalize a.eval = ρ at gx
  generalize plus w0 os d = W at e0 e1
  simp [execOp, h, gx, Instr.loadAt, go_sem, e0, e1]
theorem last_quiet {o : Oper} {a : Act} {w : World} {K : Act → World → Prop} {Q : Exit → Act → World → Prop} (d : Nat) (v : Value) (hd : o.dst = some d) (hrun : (execOp a.eval o).run Try.prog w = .ok (.value v) w) (hk : K (a.put (some d) v) w) : o.wp Try.prog a w K Q := by
  rw [← hd] at hk
  unfold Oper.wp
  rw [hrun]
  exact hk
theorem last_not {o : Oper} {a : Act} {w : World} {K : Act → World → Prop} {Q : Exit → Act → World → Prop} (x : Operand) (d : Nat) (b : Bool) (h : o.op = .unOp .not 4 x) (hx : a.eval x = .bool b) (hd : o.dst = some d) (hk : K (a.put (some d) (.bool (!b))) w) : o.wp Try.prog a w K Q := by
  refine last_quiet d (.bool (!b)) hd ?_ hk
  generalize a.eval = ρ at hx
  simp [execOp, h, hx, go_sem]

set_option maxHeartbeats 1000000 in
theorem eqClaimS_any (a1 a2 : Option Addr) (c1 c2 n : Nat) (rs : List (List Int)) (w : World) (h1 : Grid w a1 rs) (h2 : Grid w a2 rs) (hz : rs.length = n * 2) (hl : n ≤ 1000000000) (hm : ∀ i, i < n → (hold rs i).length ≤ 1048576 ∧ (need rs i).length ≤ 1048576) :
    Calls Try.prog 21 #[.slice a1 n c1, .slice a2 n c2] w fun e w' => e = .returned (.bool true) ∧ Up w w' := by
  have H1 := Lib.hid h1
  have H2 := Lib.hid h2
  have HZ := Lib.hid hz
  have HM := Lib.hid hm
  clear h1 h2 hz hm
  go_enter Try.func21, Try.ntmps21
  go_wp2
  go_loopw [5] (fun i wr => ∃ k : Nat, k ≤ n ∧ i = .int .i64 k ∧ ∃ os d, wr = plus w os d) (fun i _ => n - (intOf i).toNat)
  case atStart => exact ⟨0, Nat.zero_le _, rfl, #[], _, plus_id.symm⟩
  case round =>
    obtain ⟨k, hk, rfl, os, d, rfl⟩ := hrel
    by_cases hlt : k < n
    · obtain ⟨b1, o1, x1, e1, x2, e2, rfl, g1, p1, p2, _, _, r1, _, _, r2⟩ := H1.out.claim HZ.out hlt
      obtain ⟨b2, o2, y1, f1, y2, f2, rfl, g2, q1, q2, _, _, s1, _, _, s2⟩ := H2.out.claim HZ.out hlt
      have HE := Lib.hid (fun W (h : Below w.heap.size w W) => eqClaim_any x1 x2 y1 y2 (hold rs k).length (need rs k).length e1 e2 f1 f2 (hold rs k) (need rs k) W rfl rfl (by have := HM.out k hlt; omega) (by have := HM.out k hlt; omega) (r1.below h) (r2.below h) (s1.below h) (s2.below h))
      clear r1 r2 s1 s2
      generalize (hold rs k).length = l1 at p1 q1 HE
      generalize (need rs k).length = l2 at p2 q2 HE
      have P1 := Lib.hid p1
      have P2 := Lib.hid p2
      have Q1 := Lib.hid q1
      have Q2 := Lib.hid q2
      clear p1 p2 q1 q2
      have hlt' : (k : Int) < (n : Int) := by omega
      go_wp2
      refine wp_region_any (by kernel_rfl) ?_
      refine region_last [(17, .slice (some ⟨b1, o1, none⟩) n c1), (18, .int .i64 k), (19, .pointer (some ⟨b1, o1 + k * 2, none⟩)), (20, .agg #[.slice x1 l1 e1, .slice x2 l2 e2]), (21, .slice (some ⟨b2, o2, none⟩) n c2), (22, .int .i64 k), (23, .pointer (some ⟨b2, o2 + k * 2, none⟩)), (24, .agg #[.slice y1 l1 f1, .slice y2 l2 f2]), (25, .bool true)] _ _ (by kernel_rfl) (by kernel_rfl) ?_ _ rfl ?_
      · simp only [putAll, Act.put, List.setIfInBounds_toArray, List.set_cons_succ, List.set_cons_zero]
        refine allPure_cons (pure_move _ (.inl rfl) rfl) ?_
        refine allPure_cons (pure_move _ (.inl rfl) rfl) ?_
        refine allPure_cons (by (refine pure_quiet fun aQ osQ dQ hgQ => ?_; have h1Q : aQ.eval (.tmp 17) = (.slice (some ⟨b1, o1, none⟩) n c1) := hgQ (.tmp 17) (by simp [Op.operands, Call.operands]); have h2Q : aQ.eval (.tmp 18) = (.int .i64 k) := hgQ (.tmp 18) (by simp [Op.operands, Call.operands]); have hcQ : ∀ v, aQ.eval (.const v) = v := fun _ => rfl; generalize aQ.eval = rQ at h1Q h2Q hcQ; clear hgQ; simp [execOp, h1Q, h2Q, hcQ, resolve, invoke, builtin, go_sem, *] <;> rfl)) ?_
        refine allPure_cons (pure_loadC _ b1 (o1 + k * 2) _ _ rfl rfl (by simp [go_sem, g1]) ((plus_cell _ _ g1).trans P1.out) ((plus_cell _ _ g1).trans P2.out) rfl ⟨_, _, _, rfl⟩ ⟨_, _, _, rfl⟩) ?_
        refine allPure_cons (pure_move _ (.inl rfl) rfl) ?_
        refine allPure_cons (pure_move _ (.inl rfl) rfl) ?_
        refine allPure_cons (by (refine pure_quiet fun aQ osQ dQ hgQ => ?_; have h1Q : aQ.eval (.tmp 21) = (.slice (some ⟨b2, o2, none⟩) n c2) := hgQ (.tmp 21) (by simp [Op.operands, Call.operands]); have h2Q : aQ.eval (.tmp 22) = (.int .i64 k) := hgQ (.tmp 22) (by simp [Op.operands, Call.operands]); have hcQ : ∀ v, aQ.eval (.const v) = v := fun _ => rfl; generalize aQ.eval = rQ at h1Q h2Q hcQ; clear hgQ; simp [execOp, h1Q, h2Q, hcQ, resolve, invoke, builtin, go_sem, *] <;> rfl)) ?_
        refine allPure_cons (pure_loadC _ b2 (o2 + k * 2) _ _ rfl rfl (by simp [go_sem, g2]) ((plus_cell _ _ g2).trans Q1.out) ((plus_cell _ _ g2).trans Q2.out) rfl ⟨_, _, _, rfl⟩ ⟨_, _, _, rfl⟩) ?_
        refine allPure_cons (pure_call _ _ _ _ claim_enters rfl rfl (fun os' d' => HE.out _ (below_plus (below_plus (Below.refl _ _) _ _) os' d'))) ?_
        exact True.intro
      · intro os' d'
        simp only [putAll, Act.put, List.setIfInBounds_toArray, List.set_cons_succ, List.set_cons_zero]
        refine last_not (.tmp 25) 26 true rfl rfl rfl ?_
        simp only [Act.put, List.setIfInBounds_toArray, List.set_cons_succ, List.set_cons_zero]
        show Exit.then _ _ Exit.normal _ _
        go_wp2
        go_roundw
        case rel => exact ⟨k + 1, by omega, by go_num, _, _, rfl⟩
        case measure => simp [intOf]; omega
    · have hlt' : ¬ (k : Int) < (n : Int) := by omega
      go_wp2
      go_ret
      exact ⟨rfl, _, _, rfl⟩

end Go.Proofs.Ytlahgikhndjfoaa
