/-
  Contracts of the functions on the first violation of a limit (program). Conditions: those that each theorem states.
-/
import Derived.Test.YtfdpdhinigfpfaaZdP
import Derived.Test.YtfdpdhinigfpfaaZj
namespace Go.Proofs.Ytfdpdhinigfpfaa
set_option linter.unusedSimpArgs false
open Go.RowKit

def qX (ps : List Int) (j : Nat) : Int := ps.getD (j * 2) 0
def qY (ps : List Int) (j : Nat) : Int := ps.getD (j * 2 + 1) 0
theorem Ints.pt {w : World} {a : Option Addr} {n : Nat} {ps : List Int} (h : Ints w a ps) (hz : ps.length = n * 2) {j : Nat} (hj : j < n) :
    ∃ blk off, a = some ⟨blk, off, none⟩ ∧ blk < w.heap.size ∧ w.cell? ⟨blk, off + j * 2, none⟩ = some (.int .i64 (qX ps j)) ∧ w.cell? ⟨blk, off + j * 2 + 1, none⟩ = some (.int .i64 (qY ps j)) := by
  rcases h with h0 | ⟨blk, off, rfl, hc⟩
  · rw [h0] at hz; simp at hz; omega
  have c0 := hc (j * 2) (by omega)
  have c1 := hc (j * 2 + 1) (by omega)
  rw [← Nat.add_assoc] at c1
  exact ⟨blk, off, rfl, World.block_lt_of_cell? _ _ c0, c0, c1⟩
def okQ (ps : List Int) (j : Nat) : Bool := ptB (qX ps j) (qY ps j)
/-- The step behind point j is too long. -/
def violB (zs ps : List Int) (m j : Nat) : Bool := decide (limN zs (qX ps j) (qY ps j) m * limN zs (qX ps j) (qY ps j) m < sqF (qX ps j) (qY ps j) (qX ps (j + 1)) (qY ps (j + 1)))
/-- The first of the k steps from j on that is too long. -/
def fvN (zs ps : List Int) (m : Nat) : Nat → Nat → Int
  | 0, _ => -1
  | k + 1, j => if violB zs ps m j = true then j else fvN zs ps m k (j + 1)
def fvB (zs ps : List Int) (m n : Nat) : Bool := zonesB m zs && (decide (n ≤ 400) && allB (okQ ps) n)
def fvF (zs ps : List Int) (m n : Nat) : Int := if fvB zs ps m n = true then fvN zs ps m (n - 1) 0 else -2
theorem allB_no {p : Nat → Bool} {n j : Nat} (hj : j < n) (h : p j = false) : allB p n = false := by
  cases ha : allB p n with
  | false => rfl
  | true => rw [allB_t.1 ha j hj] at h; cases h

set_option maxHeartbeats 2000000 in
theorem allPoints_any (a : Option Addr) (n c : Nat) (ps : List Int) (w : World) (hz : ps.length = n * 2) (hi : Ints w a ps) (hn : n ≤ 1000000000) :
    Calls Try.prog 55 #[.slice a n c] w fun e w' => e = .returned (.bool (allB (okQ ps) n)) ∧ Up w w' := by
  have HI := Lib.hid hi
  have HZ := Lib.hid hz
  clear hi hz
  go_enter Try.func55, Try.ntmps55
  go_wp2
  go_loopw [4, 7] (fun _ iv wr => ∃ j : Nat, j ≤ n ∧ iv = .int .i64 j ∧ Hid (∀ i, i < j → okQ ps i = true) ∧ Hid (Below w.heap.size w wr)) (fun _ iv _ => n - (intOf iv).toNat)
  case atStart => exact ⟨0, Nat.zero_le _, rfl, fun i hi => absurd hi (Nat.not_lt_zero _), Below.refl _ _⟩
  case round =>
    obtain ⟨j, hj, rfl, HA, HW⟩ := hrel
    by_cases hlt : j < n
    · have hlt' : (j : Int) < (n : Int) := by omega
      obtain ⟨blk, off, rfl, hb, c0, c1⟩ := (HI.out.below HW.out).pt HZ.out hlt
      have hw0 := HW.out.size
      have cP := fun W => point_any (qX ps j) (qY ps j) W
      have HQ : Hid (okQ ps j = ptB (qX ps j) (qY ps j)) := rfl
      generalize ptB (qX ps j) (qY ps j) = pb at cP HQ
      generalize qX ps j = x at c0 cP
      generalize qY ps j = y at c1 cP
      have CP := Lib.hid cP
      clear cP
      cases pb
      · go_wp2_with (go_at_call 47; refine (CP.out _).mono ?_; rintro e w1 ⟨rfl, os, d, rfl⟩)
        go_ret
        exact ⟨by rw [allB_no hlt HQ.out]; rfl, up_of_below (below_plus (HW.out.alloc hw0 _) _ _)⟩
      · go_wp2_with (go_at_call 47; refine (CP.out _).mono ?_; rintro e w1 ⟨rfl, os, d, rfl⟩)
        go_roundw
        case rel => exact ⟨j + 1, by omega, by go_num, fun i hi => by
          by_cases h : i = j
          · subst h; exact HQ.out
          · exact HA.out i (by omega), below_plus (HW.out.alloc hw0 _) _ _⟩
        case measure => simp [intOf]; omega
    · have hlt' : ¬ (j : Int) < (n : Int) := by omega
      obtain rfl : j = n := by omega
      go_wp2
      go_ret
      exact ⟨by rw [allB_t.2 HA.out]; rfl, up_of_below HW.out⟩

theorem sq_enters (args : Array Value) (w : World) : (callFunc 52 args).run Try.prog w = .ok (.enter 52 args) w := (enters_of Try.func52 (by kernel_rfl) rfl) args w
theorem pure_loadAt {w0 : World} {A : Act} {o : Oper} (x : Operand) (r i : Nat) (x0 x1 : Int) (h : o.op = .load 36 x) (hx : A.eval x = .pointer (some ⟨r, i, none⟩)) (hb : ∀ os d, (plus w0 os d).cell? ⟨r, i, none⟩ = some (.int .i64 x0) ∧ (plus w0 os d).cell? ⟨r, i + 1, none⟩ = some (.int .i64 x1)) (hv : gd A (o.dst.getD 0) = .agg #[.int .i64 x0, .int .i64 x1]) : PureStep Try.prog w0 A o := by
  refine pure_quiet fun a os d hg => ?_
  have gx := (hg x (by simp [h, Op.operands])).trans hx
  rw [hv]
  obtain ⟨c0, c1⟩ := hb os d
  generalize a.eval = ρ at gx
  generalize plus w0 os d = W at c0 c1
  simp [execOp, h, gx, Instr.loadAt, go_sem, c0, c1]
theorem last_gtrB {o : Oper} {a : Act} {w : World} {K : Act → World → Prop} {Q : Exit → Act → World → Prop} (x y : Operand) (d : Nat) (L S : Int) (b : Bool) (h : o.op = .binOp .gtr 3 x y 3) (hx : a.eval x = .int .i64 L) (hy : a.eval y = .int .i64 S) (hn : decide (S < L) = b) (hd : o.dst = some d) (hk : K (a.put (some d) (.bool b)) w) : o.wp Try.prog a w K Q := by
  have hrun : (execOp a.eval o).run Try.prog w = .ok (.value (.bool b)) w := by
    generalize a.eval = ρ at hx hy
    simp [execOp, h, hx, hy, go_sem, hn]
  rw [← hd] at hk
  unfold Oper.wp
  rw [hrun]
  exact hk

/-- One step, as both functions read it. -/
theorem viol_step {zs ps : List Int} {m n j : Nat} (hB : fvB zs ps m n = true) (hj : j + 1 < n) :
    ∃ x y x' y' L S vb, qX ps j = x ∧ qY ps j = y ∧ qX ps (j + 1) = x' ∧ qY ps (j + 1) = y' ∧ limN zs x y m = L ∧ sqF x y x' y' = S ∧ violB zs ps m j = vb ∧ limB m zs x y = true ∧ (-10000 ≤ x ∧ x ≤ 10000) ∧ (-10000 ≤ y ∧ y ≤ 10000) ∧ (-10000 ≤ x' ∧ x' ≤ 10000) ∧ (-10000 ≤ y' ∧ y' ≤ 10000) ∧ (0 ≤ L * L ∧ L * L ≤ 40000) ∧ decide (L * L < S) = vb := by
  unfold fvB at hB
  rw [Bool.and_eq_true, Bool.and_eq_true] at hB
  have h1 := allB_t.1 hB.2.2 j (by omega)
  have h2 := allB_t.1 hB.2.2 (j + 1) hj
  unfold okQ at h1 h2
  have b1 := ptB_t.1 h1
  have b2 := ptB_t.1 h2
  have hl := limN_bd (u := qX ps j) (v := qY ps j) (zonesB_t.1 hB.1).2
  have hs := sq_bd' (x := limN zs (qX ps j) (qY ps j) m) (A := 200) (by omega) (by omega)
  exact ⟨_, _, _, _, _, _, _, rfl, rfl, rfl, rfl, rfl, rfl, rfl, by unfold limB; rw [hB.1, h1]; rfl, b1.1, b1.2, b2.1, b2.2, by omega, rfl⟩

set_option maxHeartbeats 2000000 in
theorem fviol_any (a : Option Addr) (m c : Nat) (zs : List Int) (a2 : Option Addr) (n c2 : Nat) (ps : List Int) (w : World) (hz : zs.length = m * 4) (hi : Ints w a zs) (hp : ps.length = n * 2) (hi2 : Ints w a2 ps) (hm : m ≤ 1000000000) (hn : n ≤ 1000000000) :
    Calls Try.prog 31 #[.slice a m c, .slice a2 n c2] w fun e w' => e = .returned (.int .i64 (fvF zs ps m n)) ∧ Up w w' := by
  have HI := Lib.hid hi
  have HJ := Lib.hid hi2
  have HZ := Lib.hid hz
  have HP := Lib.hid hp
  have hv := fun W h => zvalid_any a m c zs W hz h hm
  have ha := fun W h => allPoints_any a2 n c2 ps W hp h hn
  clear hi hi2 hz hp
  cases hB : fvB zs ps m n
  · have HF : Hid (fvF zs ps m n = -2) := by show fvF zs ps m n = -2; rw [fvF, hB]; rfl
    cases h1 : zonesB m zs <;> rw [h1] at hv
    · go_enter Try.func31, Try.ntmps31
      go_wp2_with (go_at_call 21; refine (hv _ HI.out).mono ?_; rintro e w1 ⟨rfl, os, d, rfl⟩)
      go_ret
      exact ⟨by rw [HF.out]; rfl, up_of_below (by repeat (first | with_reducible exact Below.refl _ _ | with_reducible apply below_alloc | with_reducible apply below_drw | with_reducible apply below_drew | with_reducible apply below_drewN | with_reducible apply below_plus | with_reducible apply below_set | (simp; done)))⟩
    · by_cases h4 : n ≤ 400
      · have h4' : (n : Int) ≤ 400 := by omega
        have h5 : allB (okQ ps) n = false := by
          unfold fvB at hB
          rw [h1, decide_eq_true h4] at hB
          simpa using hB
        rw [h5] at ha
        go_enter Try.func31, Try.ntmps31
        go_wp2_with (first | (go_at_call 21; refine (hv _ HI.out).mono ?_; rintro e w1 ⟨rfl, os, d, rfl⟩) | (go_at_call 55; refine (ha _ (HJ.out.plus _ _)).mono ?_; rintro e w2 ⟨rfl, os2, d2, rfl⟩))
        go_ret
        exact ⟨by rw [HF.out]; rfl, up_of_below (by repeat (first | with_reducible exact Below.refl _ _ | with_reducible apply below_alloc | with_reducible apply below_drw | with_reducible apply below_drew | with_reducible apply below_drewN | with_reducible apply below_plus | with_reducible apply below_set | (simp; done)))⟩
      · have h4' : ¬ (n : Int) ≤ 400 := by omega
        have h4'' : (400 : Int) < (n : Int) := by omega
        go_enter Try.func31, Try.ntmps31
        go_wp2_with (go_at_call 21; refine (hv _ HI.out).mono ?_; rintro e w1 ⟨rfl, os, d, rfl⟩)
        go_ret
        exact ⟨by rw [HF.out]; rfl, up_of_below (by repeat (first | with_reducible exact Below.refl _ _ | with_reducible apply below_alloc | with_reducible apply below_drw | with_reducible apply below_drew | with_reducible apply below_drewN | with_reducible apply below_plus | with_reducible apply below_set | (simp; done)))⟩
  · have HF : Hid (fvF zs ps m n = fvN zs ps m (n - 1) 0) := by show fvF zs ps m n = _; rw [fvF, if_pos hB]
    have hB' := hB
    unfold fvB at hB'
    rw [Bool.and_eq_true, Bool.and_eq_true] at hB'
    have h4' : (n : Int) ≤ 400 := by have := of_decide_eq_true hB'.2.1; omega
    rw [hB'.1] at hv
    rw [hB'.2.2] at ha
    have HB := Lib.hid hB
    clear hB hB'
    have hsub : IntKind.i64.wrap ((n : Int) - 1) = (n : Int) - 1 := IntWalk.i64_in _ (by omega)
    go_enter Try.func31, Try.ntmps31
    go_wp2_with (first | (go_at_call 21; refine (hv _ HI.out).mono ?_; rintro e w1 ⟨rfl, os, d, rfl⟩) | (go_at_call 55; refine (ha _ (HJ.out.plus _ _)).mono ?_; rintro e w2 ⟨rfl, os2, d2, rfl⟩))
    clear hv ha
    go_loopw [5, 6, 23] (fun _ _ iv wr => ∃ j : Nat, (j = 0 ∨ j + 1 ≤ n) ∧ iv = .int .i64 j ∧ Hid (fvN zs ps m (n - 1) 0 = fvN zs ps m (n - 1 - j) j) ∧ Hid (Below w.heap.size w wr)) (fun _ _ iv _ => n - (intOf iv).toNat)
    case atStart => exact ⟨0, .inl rfl, rfl, rfl, by show Below _ _ _; repeat (first | with_reducible exact Below.refl _ _ | with_reducible apply below_alloc | with_reducible apply below_drw | with_reducible apply below_drew | with_reducible apply below_drewN | with_reducible apply below_plus | with_reducible apply below_set | (simp; done))⟩
    case round =>
      obtain ⟨j, hj, rfl, HN, HW⟩ := hrel
      by_cases hlt : j + 1 < n
      · have hlt' : (j : Int) < (n : Int) - 1 := by omega
        have hjn : (j : Int) < (n : Int) := by omega
        obtain ⟨x, y, x', y', L, S, vb, ex, ey, ex', ey', eL, eS, ev, hlB, hx, hy, hx', hy', hLL, hdec⟩ := viol_step HB.out hlt
        have hIw := HI.out.below HW.out
        obtain ⟨blk, off, rfl, hb, c0, c1⟩ := (HJ.out.below HW.out).pt HP.out (show j < n by omega)
        obtain ⟨blk', off', he, hb', d0, d1⟩ := (HJ.out.below HW.out).pt HP.out hlt
        simp only [Option.some.injEq, Addr.mk.injEq, and_true] at he
        obtain ⟨rfl, rfl⟩ := he
        rw [ex] at c0
        rw [ey] at c1
        rw [ex'] at d0
        rw [ey'] at d1
        have hlim : limF m zs x y = L := by rw [limF, if_pos hlB, eL]
        have hstep : fvN zs ps m (n - 1 - j) j = if vb = true then (j : Int) else fvN zs ps m (n - 1 - (j + 1)) (j + 1) := by
          rw [show n - 1 - j = (n - 1 - (j + 1)) + 1 by omega, fvN, ev]
        have cL := Lib.hid (fun W h => limit_any a m c zs x y W HZ.out h hm)
        rw [hlim] at cL
        have cS := Lib.hid (fun W => square_any x y x' y' W hx hy hx' hy')
        rw [eS] at cS
        have HS := Lib.hid hstep
        have HIw := Lib.hid hIw
        have HD := Lib.hid hdec
        have wL : IntKind.i64.wrap (L * L) = L * L := IntWalk.i64_in _ (by omega)
        obtain ⟨k, hk⟩ : ∃ k, k = j + 1 := ⟨_, rfl⟩
        have wk : IntKind.i64.wrap ((j : Int) + 1) = (k : Int) := by rw [show (j : Int) + 1 = (k : Int) by omega]; exact IntWalk.i64_in _ (by omega)
        have hkn : (k : Int) < (n : Int) := by omega
        rw [← hk] at d0 d1
        have KK := Lib.hid hk
        have C0 := Lib.hid c0
        have C1 := Lib.hid c1
        have D0 := Lib.hid d0
        have D1 := Lib.hid d1
        clear ex ey ex' ey' eL eS ev hlB hx hy hx' hy' hLL hdec hlim hstep hIw hk d0 d1
        go_wp2_with fail
        refine (cL.out _ HIw.out).mono ?_
        rintro e w3 ⟨rfl, hU⟩
        have HU := Lib.hid hU.below
        have HW3 := Lib.hid (HW.out.trans (hU.below.mono HW.out.size))
        clear hU c0 c1
        go_wp2
        refine wp_region_any (by kernel_rfl) ?_
        refine region_last [(32, .slice (some ⟨blk, off, none⟩) n c2), (33, .int .i64 j), (34, .pointer (some ⟨blk, off + j * 2, none⟩)), (35, .agg #[.int .i64 x, .int .i64 y]), (36, .slice (some ⟨blk, off, none⟩) n c2), (37, .int .i64 j), (38, .int .i64 k), (39, .pointer (some ⟨blk, off + k * 2, none⟩)), (40, .agg #[.int .i64 x', .int .i64 y']), (41, .int .i64 S), (42, .int .i64 L), (43, .int .i64 L), (44, .int .i64 (L * L))] _ _ (by kernel_rfl) (by kernel_rfl) ?_ _ rfl ?_
        · simp only [putAll, Act.put, List.setIfInBounds_toArray, List.set_cons_succ, List.set_cons_zero]
          have hbl : ∀ os d, Below wr.heap.size wr (plus w3 os d) := fun os d => HU.out.trans ((below_plus (Below.refl w3.heap.size w3) os d).mono HU.out.size)
          have HBL := Lib.hid hbl
          clear hbl
          refine allPure_cons (pure_move _ (.inl rfl) rfl) ?_
          refine allPure_cons (pure_move _ (.inl rfl) rfl) ?_
          refine allPure_cons (by (refine pure_quiet fun aQ osQ dQ hgQ => ?_; have h1Q : aQ.eval (.tmp 32) = (.slice (some ⟨blk, off, none⟩) n c2) := hgQ (.tmp 32) (by simp [Op.operands, Call.operands]); have h2Q : aQ.eval (.tmp 33) = (.int .i64 j) := hgQ (.tmp 33) (by simp [Op.operands, Call.operands]); have hcQ : ∀ v, aQ.eval (.const v) = v := fun _ => rfl; generalize aQ.eval = rQ at h1Q h2Q hcQ; clear hgQ; simp [execOp, h1Q, h2Q, hcQ, resolve, invoke, builtin, go_sem, *] <;> rfl)) ?_
          refine allPure_cons (pure_loadAt _ blk (off + j * 2) x y rfl rfl (fun os d => ⟨((HBL.out os d).cell (p := ⟨blk, off + j * 2, none⟩) hb).trans C0.out, ((HBL.out os d).cell (p := ⟨blk, off + j * 2 + 1, none⟩) hb).trans C1.out⟩) rfl) ?_
          refine allPure_cons (pure_move _ (.inl rfl) rfl) ?_
          refine allPure_cons (pure_move _ (.inl rfl) rfl) ?_
          refine allPure_cons (by (refine pure_quiet fun aQ osQ dQ hgQ => ?_; have h1Q : aQ.eval (.tmp 37) = (.int .i64 j) := hgQ (.tmp 37) (by simp [Op.operands, Call.operands]); have hcQ : ∀ v, aQ.eval (.const v) = v := fun _ => rfl; generalize aQ.eval = rQ at h1Q hcQ; clear hgQ; simp [execOp, h1Q, hcQ, resolve, invoke, builtin, go_sem, *] <;> rfl)) ?_
          refine allPure_cons (by (refine pure_quiet fun aQ osQ dQ hgQ => ?_; have h1Q : aQ.eval (.tmp 36) = (.slice (some ⟨blk, off, none⟩) n c2) := hgQ (.tmp 36) (by simp [Op.operands, Call.operands]); have h2Q : aQ.eval (.tmp 38) = (.int .i64 k) := hgQ (.tmp 38) (by simp [Op.operands, Call.operands]); have hcQ : ∀ v, aQ.eval (.const v) = v := fun _ => rfl; generalize aQ.eval = rQ at h1Q h2Q hcQ; clear hgQ; simp [execOp, h1Q, h2Q, hcQ, resolve, invoke, builtin, go_sem, *] <;> rfl)) ?_
          refine allPure_cons (pure_loadAt _ blk (off + k * 2) x' y' rfl rfl (fun os d => ⟨((HBL.out os d).cell (p := ⟨blk, off + k * 2, none⟩) hb).trans D0.out, ((HBL.out os d).cell (p := ⟨blk, off + k * 2 + 1, none⟩) hb).trans D1.out⟩) rfl) ?_
          refine allPure_cons (pure_call _ _ _ _ sq_enters rfl rfl (fun os' d' => cS.out _)) ?_
          refine allPure_cons (pure_move _ (.inl rfl) rfl) ?_
          refine allPure_cons (pure_move _ (.inl rfl) rfl) ?_
          refine allPure_cons (by (refine pure_quiet fun aQ osQ dQ hgQ => ?_; have h1Q : aQ.eval (.tmp 42) = (.int .i64 L) := hgQ (.tmp 42) (by simp [Op.operands, Call.operands]); have h2Q : aQ.eval (.tmp 43) = (.int .i64 L) := hgQ (.tmp 43) (by simp [Op.operands, Call.operands]); have hcQ : ∀ v, aQ.eval (.const v) = v := fun _ => rfl; generalize aQ.eval = rQ at h1Q h2Q hcQ; clear hgQ; simp [execOp, h1Q, h2Q, hcQ, resolve, invoke, builtin, go_sem, *] <;> rfl)) ?_
          exact True.intro
        · intro os' d'
          simp only [putAll, Act.put, List.setIfInBounds_toArray, List.set_cons_succ, List.set_cons_zero]
          refine last_gtrB (.tmp 41) (.tmp 44) 45 S (L * L) vb rfl rfl rfl HD.out rfl ?_
          simp only [Act.put, List.setIfInBounds_toArray, List.set_cons_succ, List.set_cons_zero]
          show Exit.then _ _ Exit.normal _ _
          cases vb
          · go_wp2
            go_roundw
            case rel => exact ⟨k, .inr (by have := KK.out; omega), by have := KK.out; first | (rw [this]; go_num) | go_num, by rw [HN.out, HS.out, KK.out]; rfl, below_plus HW3.out _ _⟩
            case measure => have := KK.out; simp [intOf]; omega
          · go_wp2
            go_ret
            exact ⟨by rw [HF.out, HN.out, HS.out]; rfl, up_of_below (below_plus HW3.out _ _)⟩
      · have hlt' : ¬ (j : Int) < (n : Int) - 1 := by omega
        have hlt'' : (n : Int) - 1 ≤ (j : Int) := by omega
        have h0 : n - 1 - j = 0 := by omega
        go_wp2
        go_ret
        exact ⟨by rw [HF.out, HN.out, h0]; rfl, up_of_below HW.out⟩

end Go.Proofs.Ytfdpdhinigfpfaa
