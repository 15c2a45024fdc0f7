/-
  Contracts of ClaimsValid (program and reference). Conditions: those that each theorem states.
-/
import Derived.Test.YtlahgikhndjfoaaClV
namespace Go.Proofs.Ytlahgikhndjfoaa
open Go.RowKit

set_option maxHeartbeats 1000000 in
theorem badC_any (x1 x2 : Option Addr) (l1 l2 c1 c2 k kc fb : Nat) (fa : Option Addr) (z1 z2 : List Int) (w : World) (e1 : l1 = z1.length) (e2 : l2 = z2.length) (i1 : Ints w x1 z1) (i2 : Ints w x2 z2) (m1 : l1 ≤ 1000000000) (m2 : l2 ≤ 1000000000)
    (hf : w.cell? ⟨fb, 0, none⟩ = some (.slice fa k kc)) :
    Calls Try.prog 36 #[.agg #[.slice x1 l1 c1, .slice x2 l2 c2], .pointer (some ⟨fb, 0, none⟩)] w fun e w' => e = .returned (.bool (!(amtB z1 k && amtB z2 k))) ∧ Up w w' := by
  have hb := World.block_lt_of_cell? _ _ hf
  have hA := fun W (h : Below w.heap.size w W) => amounts_any x1 l1 c1 k z1 W e1 (i1.below h) m1
  have hB := fun W (h : Below w.heap.size w W) => amounts_any x2 l2 c2 k z2 W e2 (i2.below h) m2
  have HA := Lib.hid hA
  have HB := Lib.hid hB
  simp only at hb
  clear hA hB i1 i2 e1 e2
  cases q1 : amtB z1 k
  · rw [q1] at HA
    clear q1 HB
    go_enter Try.func36, Try.ntmps36
    go_wp2_with fail
    refine (HA.out _ (by repeat (first | with_reducible exact Below.refl _ _ | with_reducible apply below_alloc | with_reducible apply below_drw | with_reducible apply below_drew | with_reducible apply below_drewN | with_reducible apply below_plus | with_reducible apply below_set | (simp; done)))).mono ?_
    rintro e w' ⟨rfl, rfl⟩
    go_wp2
    go_ret
    exact ⟨rfl, up_of_below (by repeat (first | with_reducible exact Below.refl _ _ | with_reducible apply below_alloc | with_reducible apply below_drw | with_reducible apply below_drew | with_reducible apply below_drewN | with_reducible apply below_plus | with_reducible apply below_set | (simp; done)))⟩
  · rw [q1] at HA
    clear q1
    generalize amtB z2 k = q at HB ⊢
    go_enter Try.func36, Try.ntmps36
    go_wp2_with fail
    refine (HA.out _ (by repeat (first | with_reducible exact Below.refl _ _ | with_reducible apply below_alloc | with_reducible apply below_drw | with_reducible apply below_drew | with_reducible apply below_drewN | with_reducible apply below_plus | with_reducible apply below_set | (simp; done)))).mono ?_
    rintro e w' ⟨rfl, rfl⟩
    go_wp2_with fail
    refine (HB.out _ (by repeat (first | with_reducible exact Below.refl _ _ | with_reducible apply below_alloc | with_reducible apply below_drw | with_reducible apply below_drew | with_reducible apply below_drewN | with_reducible apply below_plus | with_reducible apply below_set | (simp; done)))).mono ?_
    rintro e w' ⟨rfl, rfl⟩
    go_wp2
    go_ret
    exact ⟨by simp, up_of_below (by repeat (first | with_reducible exact Below.refl _ _ | with_reducible apply below_alloc | with_reducible apply below_drw | with_reducible apply below_drew | with_reducible apply below_drewN | with_reducible apply below_plus | with_reducible apply below_set | (simp; done)))⟩

theorem badC_enters (args : Array Value) (w : World) : (callFunc 36 args).run Try.prog w = .ok (.enter 36 args) w := (enters_of Try.func36 (by kernel_rfl) rfl) args w

/-- Every row has at most so many numbers. -/
def rowsMax (rs : List (List Int)) (m : Nat) : Prop := ∀ i, (rs.getD i []).length ≤ m

set_option maxHeartbeats 1000000 in
theorem indexC_any (a fa : Option Addr) (n c k kc fb : Nat) (rs : List (List Int)) (w : World) (hz : rs.length = n * 2) (hi : Grid w a rs) (hm : rowsMax rs 1000000000) (hn : n ≤ 1000000000) (hf : w.cell? ⟨fb, 0, none⟩ = some (.slice fa k kc)) :
    Calls Try.prog 28 #[.slice a n c, .func (.func 36) #[] #[.pointer (some ⟨fb, 0, none⟩)]] w fun e w' => ∃ r : Int, e = .returned (.int .i64 r) ∧ decide (0 ≤ r) = (!allB (okC rs k) n) ∧ Up w w' := by
  have HI := Lib.hid hi
  have HZ := Lib.hid hz
  have HM := Lib.hid hm
  have eg := badC_enters
  have hb := World.block_lt_of_cell? _ _ hf
  simp only at hb
  have HF := Lib.hid hf
  clear hi hz hm hf
  go_enter Try.func28, Try.ntmps28
  go_wp2
  go_loopw [8] (fun iv wr => ∃ j : Nat, j ≤ n ∧ iv = .int .i64 j ∧ Hid (∀ i, i < j → okC rs k i = true) ∧ ∃ os d, wr = plus w os d) (fun iv _ => n - (intOf iv).toNat)
  case atStart => exact ⟨0, Nat.zero_le _, rfl, fun i hi => absurd hi (Nat.not_lt_zero _), #[], _, plus_id.symm⟩
  case round =>
    obtain ⟨j, hj, rfl, HP, os, d, rfl⟩ := hrel
    by_cases hlt : j < n
    · have hlt' : (j : Int) < (n : Int) := by omega
      obtain ⟨blk, off, x1, c1, x2, c2, rfl, hbk, d1, d2, _, _, r1, _, _, r2⟩ := HI.out.claim HZ.out hlt
      have hbad := fun W (h : Below w.heap.size w W) => badC_any x1 x2 (hold rs j).length (need rs j).length c1 c2 k kc fb fa (hold rs j) (need rs j) W rfl rfl (r1.below h) (r2.below h) (HM.out _) (HM.out _) ((h.cell (p := ⟨fb, 0, none⟩) hb).trans HF.out)
      have HBad := Lib.hid hbad
      have hok : okC rs k j = (amtB (hold rs j) k && amtB (need rs j) k) := rfl
      rw [← hok] at HBad
      clear r1 r2 hbad hok
      generalize (hold rs j).length = l1 at d1 HBad
      generalize (need rs j).length = l2 at d2 HBad
      cases hq : okC rs k j <;> rw [hq] at HBad
      · have HY : Hid (allB (okC rs k) n = false) := allB_f hlt hq
        clear hq
        go_wp2_with (first | (go_at_call 36; refine (HBad.out _ (by repeat (first | with_reducible exact Below.refl _ _ | with_reducible apply below_alloc | with_reducible apply below_drw | with_reducible apply below_drew | with_reducible apply below_drewN | with_reducible apply below_plus | with_reducible apply below_set | (simp; done)))).mono ?_; rintro e w1 ⟨rfl, os, d, rfl⟩))
        go_ret
        exact ⟨j, rfl, by rw [HY.out]; simp, _, _, rfl⟩
      · have HY := Lib.hid hq
        clear hq
        go_wp2_with (first | (go_at_call 36; refine (HBad.out _ (by repeat (first | with_reducible exact Below.refl _ _ | with_reducible apply below_alloc | with_reducible apply below_drw | with_reducible apply below_drew | with_reducible apply below_drewN | with_reducible apply below_plus | with_reducible apply below_set | (simp; done)))).mono ?_; rintro e w1 ⟨rfl, os, d, rfl⟩))
        go_roundw
        case rel =>
          refine ⟨j + 1, by omega, by go_num, fun i hi => ?_, _, _, rfl⟩
          by_cases hij : i = j
          · subst hij; exact HY.out
          · exact HP.out i (by omega)
        case measure => simp [intOf]; omega
    · have hlt' : ¬ (j : Int) < (n : Int) := by omega
      obtain rfl : j = n := by omega
      have HY : Hid (allB (okC rs k) j = true) := allB_t.2 HP.out
      go_wp2
      go_ret
      exact ⟨-1, rfl, by rw [HY.out]; rfl, _, _, rfl⟩

set_option maxHeartbeats 400000 in
theorem containsC_any (a fa : Option Addr) (n c k kc fb : Nat) (rs : List (List Int)) (w : World) (hz : rs.length = n * 2) (hi : Grid w a rs) (hm : rowsMax rs 1000000000) (hn : n ≤ 1000000000) (hf : w.cell? ⟨fb, 0, none⟩ = some (.slice fa k kc)) :
    Calls Try.prog 35 #[.slice a n c, .func (.func 36) #[] #[.pointer (some ⟨fb, 0, none⟩)]] w fun e w' => e = .returned (.bool (!allB (okC rs k) n)) ∧ Up w w' := by
  have H := Lib.hid (indexC_any a fa n c k kc fb rs w hz hi hm hn hf)
  clear hz hi hm hf
  generalize allB (okC rs k) n = q at H ⊢
  go_enter Try.func35, Try.ntmps35
  go_wp2_with (first | (go_at_call 28; refine H.out.mono ?_; rintro e w1 ⟨r, rfl, hr, hup⟩))
  all_goals
    go_ret
    exact ⟨by rw [← hr]; simp_all, hup⟩

set_option maxHeartbeats 1000000 in
theorem valid_any (a fa : Option Addr) (n c k kc : Nat) (rs : List (List Int)) (fs : List Int) (w : World) (hz : rs.length = n * 2) (hi : Grid w a rs) (hm : rowsMax rs 1000000000) (hn : n ≤ 1000000000) (hk : k = fs.length) (hfi : Ints w fa fs) (hk1 : k ≤ 1000000000) :
    Calls Try.prog 17 #[.slice a n c, .slice fa k kc] w fun e w' => e = .returned (.bool (claimsB n rs fs)) ∧ Up w w' := by
  have HC := Lib.hid (fun W (h : Below w.heap.size w W) (fb : Nat) (hf : W.cell? ⟨fb, 0, none⟩ = some (.slice fa k kc)) => containsC_any a fa n c k kc fb rs W hz (hi.below h) hm hn hf)
  have HA := Lib.hid (fun W (h : Below w.heap.size w W) => amounts_any fa k kc k fs W hk (hfi.below h) hk1)
  have KK : Hid (∀ b, claimsB n rs fs = b → Ending.returned (.bool b) = .returned (.bool (claimsB n rs fs))) := fun b h => by rw [h]
  have hv : Hid (claimsB n rs fs = (decide (n ≤ 6) && decide (k ≤ 4) && amtB fs k && allB (okC rs k) n)) := by
    show claimsB n rs fs = _
    rw [claimsB, amtB, ← hk]; simp
  clear hz hi hm hk hfi
  generalize claimsB n rs fs = V at KK hv ⊢
  by_cases g1 : n ≤ 6
  · cases g2 : amtB fs k
    · rw [g2] at HA hv
      have KK := Lib.hid (KK.out false (by rw [hv.out]; simp))
      clear g2 hv
      go_enter Try.func17, Try.ntmps17
      go_wp2_with (first | (go_at_call 34; refine (HA.out _ (by repeat (first | with_reducible exact Below.refl _ _ | with_reducible apply below_alloc | with_reducible apply below_drw | with_reducible apply below_drew | with_reducible apply below_drewN | with_reducible apply below_plus | with_reducible apply below_set | (simp; done)))).mono ?_; rintro e w' ⟨rfl, rfl⟩))
      go_ret
      exact ⟨KK.out, up_of_below (by repeat (first | with_reducible exact Below.refl _ _ | with_reducible apply below_alloc | with_reducible apply below_drw | with_reducible apply below_drew | with_reducible apply below_drewN | with_reducible apply below_plus | with_reducible apply below_set | (simp; done)))⟩
    · rw [g2] at HA hv
      by_cases g3 : k ≤ 4
      · have KK := Lib.hid (KK.out (!!allB (okC rs k) n) (by rw [hv.out]; simp [g1, g3]))
        clear g2 hv
        generalize allB (okC rs k) n = q at HC KK
        go_enter Try.func17, Try.ntmps17
        go_wp2_with (first | (go_at_call 34; refine (HA.out _ (by repeat (first | with_reducible exact Below.refl _ _ | with_reducible apply below_alloc | with_reducible apply below_drw | with_reducible apply below_drew | with_reducible apply below_drewN | with_reducible apply below_plus | with_reducible apply below_set | (simp; done)))).mono ?_; rintro e w' ⟨rfl, rfl⟩) | (go_at_call 35; refine (HC.out _ (by repeat (first | with_reducible exact Below.refl _ _ | with_reducible apply below_alloc | with_reducible apply below_drw | with_reducible apply below_drew | with_reducible apply below_drewN | with_reducible apply below_plus | with_reducible apply below_set | (simp; done))) _ (by simp [go_sem])).mono ?_; rintro e w' ⟨rfl, os, d, rfl⟩))
        go_ret
        exact ⟨by simpa using KK.out, up_of_below (by repeat (first | with_reducible exact Below.refl _ _ | with_reducible apply below_alloc | with_reducible apply below_drw | with_reducible apply below_drew | with_reducible apply below_drewN | with_reducible apply below_plus | with_reducible apply below_set | (simp; done)))⟩
      · have KK := Lib.hid (KK.out false (by rw [hv.out]; simp [g3]))
        have g3' : 4 < k := by omega
        clear g2 hv g3
        go_enter Try.func17, Try.ntmps17
        go_wp2_with (first | (go_at_call 34; refine (HA.out _ (by repeat (first | with_reducible exact Below.refl _ _ | with_reducible apply below_alloc | with_reducible apply below_drw | with_reducible apply below_drew | with_reducible apply below_drewN | with_reducible apply below_plus | with_reducible apply below_set | (simp; done)))).mono ?_; rintro e w' ⟨rfl, rfl⟩))
        go_ret
        exact ⟨KK.out, up_of_below (by repeat (first | with_reducible exact Below.refl _ _ | with_reducible apply below_alloc | with_reducible apply below_drw | with_reducible apply below_drew | with_reducible apply below_drewN | with_reducible apply below_plus | with_reducible apply below_set | (simp; done)))⟩
  · have KK := Lib.hid (KK.out false (by rw [hv.out]; simp [g1]))
    have g1' : 6 < n := by omega
    clear g1 hv
    go_enter Try.func17, Try.ntmps17
    go_wp2
    go_ret
    exact ⟨KK.out, up_of_below (by repeat (first | with_reducible exact Below.refl _ _ | with_reducible apply below_alloc | with_reducible apply below_drw | with_reducible apply below_drew | with_reducible apply below_drewN | with_reducible apply below_plus | with_reducible apply below_set | (simp; done)))⟩

set_option maxHeartbeats 2000000 in
theorem sValid_any (a fa : Option Addr) (n c k kc : Nat) (rs : List (List Int)) (fs : List Int) (w : World) (hz : rs.length = n * 2) (hi : Grid w a rs) (hm : rowsMax rs 1000000000) (hn : n ≤ 1000000000) (hk : k = fs.length) (hfi : Ints w fa fs) (hk1 : k ≤ 1000000000) :
    Calls Try.prog 10 #[.slice a n c, .slice fa k kc] w fun e w' => e = .returned (.bool (claimsB n rs fs)) ∧ w = w' := by
  have HS := Lib.hid (small_any fa kc k fs w hfi hk hk1)
  have hv : Hid (claimsB n rs fs = (decide (n ≤ 6) && decide (k ≤ 4) && smallB fs && allB (okC rs k) n)) := by
    show claimsB n rs fs = _
    rw [claimsB, ← hk]
  clear hk hfi
  have KK : Hid (∀ b, claimsB n rs fs = b → Ending.returned (.bool b) = .returned (.bool (claimsB n rs fs))) := fun b h => by rw [h]
  generalize claimsB n rs fs = V at KK hv ⊢
  by_cases g3 : k ≤ 4
  · by_cases g1 : n ≤ 6
    · cases g2 : smallB fs
      · rw [g2] at HS hv
        have KK := Lib.hid (KK.out false (by rw [hv.out]; simp))
        clear g2 hv hi hz hm
        go_enter Try.func10, Try.ntmps10
        go_wp2_with (first | (go_at_call 25; refine HS.out.mono ?_; rintro e w' ⟨rfl, rfl⟩))
        go_ret
        exact ⟨KK.out, rfl⟩
      · rw [g2] at HS hv
        have hv : Hid (V = allB (okC rs k) n) := by show V = _; rw [hv.out]; simp [g1, g3]
        have HI := Lib.hid hi
        have HZ := Lib.hid hz
        have HM := Lib.hid hm
        clear g2 hi hz hm
        go_enter Try.func10, Try.ntmps10
        go_wp2_with (first | (go_at_call 25; refine HS.out.mono ?_; rintro e w' ⟨rfl, rfl⟩))
        go_loop [5] (fun iv => ∃ j : Nat, j ≤ n ∧ iv = .int .i64 j ∧ Hid (∀ i, i < j → okC rs k i = true)) (fun iv => n - (intOf iv).toNat)
        case atStart => exact ⟨0, Nat.zero_le _, rfl, fun i hi => absurd hi (Nat.not_lt_zero _)⟩
        case round =>
          obtain ⟨j, hj, rfl, HP⟩ := hrel
          by_cases hlt : j < n
          · have hlt' : (j : Int) < (n : Int) := by omega
            obtain ⟨blk, off, x1, c1, x2, c2, rfl, hbk, d1, d2, _, _, r1, _, _, r2⟩ := HI.out.claim HZ.out hlt
            have HS1 := Lib.hid (small_any x1 c1 (hold rs j).length (hold rs j) w r1 rfl (HM.out _))
            have HS2 := Lib.hid (small_any x2 c2 (need rs j).length (need rs j) w r2 rfl (HM.out _))
            have hok : Hid (okC rs k j = ((decide ((hold rs j).length = k) && smallB (hold rs j)) && (decide ((need rs j).length = k) && smallB (need rs j)))) := rfl
            clear r1 r2
            generalize (hold rs j).length = l1 at d1 HS1 hok
            generalize (need rs j).length = l2 at d2 HS2 hok
            by_cases g4 : l1 = k
            · subst g4
              by_cases g5 : l2 = l1
              · subst g5
                cases g6 : smallB (hold rs j)
                · rw [g6] at HS1 hok
                  have KK := Lib.hid (KK.out false (by rw [hv.out]; exact allB_f hlt (by rw [hok.out]; simp)))
                  clear g6
                  go_wp2_with (first | (go_at_call 25; refine HS1.out.mono ?_; rintro e w' ⟨rfl, rfl⟩))
                  go_ret
                  exact ⟨KK.out, rfl⟩
                · rw [g6] at HS1 hok
                  cases g7 : smallB (need rs j)
                  · rw [g7] at HS2 hok
                    have KK := Lib.hid (KK.out false (by rw [hv.out]; exact allB_f hlt (by rw [hok.out]; simp)))
                    clear g6 g7
                    go_wp2_with fail
                    refine HS1.out.mono ?_
                    rintro e w' ⟨rfl, rfl⟩
                    go_wp2_with fail
                    refine HS2.out.mono ?_
                    rintro e w' ⟨rfl, rfl⟩
                    go_wp2
                    go_ret
                    exact ⟨KK.out, rfl⟩
                  · rw [g7] at HS2 hok
                    have HY : Hid (okC rs l2 j = true) := by show okC rs l2 j = true; rw [hok.out]; simp
                    clear g6 g7
                    go_wp2_with fail
                    refine HS1.out.mono ?_
                    rintro e w' ⟨rfl, rfl⟩
                    go_wp2_with fail
                    refine HS2.out.mono ?_
                    rintro e w' ⟨rfl, rfl⟩
                    go_wp2
                    go_round
                    case rel =>
                      refine ⟨j + 1, by omega, by go_num, fun i hi => ?_⟩
                      by_cases hij : i = j
                      · subst hij; exact HY.out
                      · exact HP.out i (by omega)
                    case measure => simp [intOf]; omega
              · have KK := Lib.hid (KK.out false (by rw [hv.out]; exact allB_f hlt (by rw [hok.out]; simp [g5])))
                have g5' : ((l2 : Int) == (l1 : Int)) = false := by simp; omega
                have g5'' : ((l2 : Int) != (l1 : Int)) = true := by simp; omega
                clear g5
                go_wp2
                go_ret
                exact ⟨KK.out, rfl⟩
            · have KK := Lib.hid (KK.out false (by rw [hv.out]; exact allB_f hlt (by rw [hok.out]; simp [g4])))
              have g4' : ((l1 : Int) == (k : Int)) = false := by simp; omega
              have g4'' : ((l1 : Int) != (k : Int)) = true := by simp; omega
              clear g4
              go_wp2
              go_ret
              exact ⟨KK.out, rfl⟩
          · have hlt' : ¬ (j : Int) < (n : Int) := by omega
            obtain rfl : j = n := by omega
            have KK := Lib.hid (KK.out true (by rw [hv.out]; exact allB_t.2 HP.out))
            go_wp2
            go_ret
            exact ⟨KK.out, rfl⟩
    · have KK := Lib.hid (KK.out false (by rw [hv.out]; simp [g1]))
      have g1' : 6 < n := by omega
      clear g1 hv hi hz hm
      go_enter Try.func10, Try.ntmps10
      go_wp2
      go_ret
      exact ⟨KK.out, rfl⟩
  · have KK := Lib.hid (KK.out false (by rw [hv.out]; simp [g3]))
    have g3' : 4 < k := by omega
    clear g3 hv hi hz hm
    go_enter Try.func10, Try.ntmps10
    go_wp2
    go_ret
    exact ⟨KK.out, rfl⟩

end Go.Proofs.Ytlahgikhndjfoaa
