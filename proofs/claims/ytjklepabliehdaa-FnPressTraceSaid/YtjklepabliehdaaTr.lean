/-
  Contracts of the places of a tool that presses (program and reference). No condition.
-/
import Derived.Test.YtjklepabliehdaaOwn
import Derived.Test.YtjklepabliehdaaPs
namespace Go.Proofs.Ytjklepabliehdaa
open Go.RowKit

def prsStep (v k f s : Int) (p : Int) : Int := prsF p v k f s
def trB (p v k f s m : Int) : Bool := prsB p v k f s && inB m 0 400
theorem trB_t {p v k f s m : Int} : trB p v k f s m = true ↔ prsB p v k f s = true ∧ 0 ≤ m ∧ m ≤ 400 := by simp [trB, inB_t]
def trF (p v k f s m : Int) : List Int := if trB p v k f s m = true then tr (prsStep v k f s) p m.toNat else []
theorem trF_len (p v k f s m : Int) : (trF p v k f s m).length ≤ 400 := by
  unfold trF
  split
  · rename_i h; have := (trB_t.1 h).2; rw [tr_length]; omega
  · simp

set_option maxHeartbeats 1000000 in
theorem trace_any (p v k f s m : Int) (w : World) :
    Calls Try.prog 26 #[.int .i64 p, .int .i64 v, .int .i64 k, .int .i64 f, .int .i64 s, .int .i64 m] w (Made w (trF p v k f s m)) := by
  cases h1 : wallB p v k <;> cases h2 : inB f 1 1000 <;> cases h3 : inB s 1 200 <;> cases h4 : inB m 0 400
  case true.true.true.true =>
    have hB : trB p v k f s m = true := by rw [trB, prsB, h1, h2, h3, h4]; rfl
    have hF : trF p v k f s m = tr (prsStep v k f s) p m.toNat := by rw [trF, if_pos hB]
    obtain ⟨m1, m2⟩ := inB_t.1 h4
    obtain ⟨n, rfl⟩ := Int.eq_ofNat_of_zero_le m1
    rw [Int.toNat_natCast] at hF
    rw [hF]
    clear hF hB
    obtain ⟨B, hB⟩ : ∃ B, B = w.heap.size := ⟨_, rfl⟩
    have HB := Lib.hid hB
    clear hB
    go_enter Try.func26, Try.ntmps26
    go_wp2_with (first | (go_at_call 34; refine (wallFits_any _ _ _ _).mono ?_; rintro e w' ⟨rfl, rfl⟩) | (go_at_call 37; refine (within_any _ _ _ _).mono ?_; rintro e w' ⟨rfl, rfl⟩))
    clear h1 h2 h3 h4
    go_loopw [0, 13, 35] (fun pv v' iv wr => ∃ j : Nat, j ≤ n ∧ iv = .int .i64 j ∧ pv = .int .i64 (it (prsStep v k f s) p j) ∧ Hid (Own wr B v' (tr (prsStep v k f s) p j)) ∧ Hid (Below B w wr)) (fun _ _ iv _ => n - (intOf iv).toNat)
    case atStart =>
      refine ⟨0, Nat.zero_le _, rfl, rfl, ?_, ?_⟩
      · show Own _ _ _ _
        rw [HB.out]
        first | exact Own.nil _ _ | exact Own.made _ _ (Nat.le_refl _)
      · show Below _ _ _
        rw [HB.out]
        first | exact Below.refl _ _ | exact (Below.refl _ _).alloc (Nat.le_refl _) _
    case round =>
      obtain ⟨j, hj, rfl, rfl, HO, HW⟩ := hrel
      by_cases hlt : j < n
      · have hlt' : (j : Int) < (n : Int) := by omega
        go_wp2_with (first | (go_at_call 14; refine (press_any _ _ _ _ _ _).mono ?_; rintro e w' ⟨rfl, rfl⟩) | (at_builtin; refine wpList_app rfl _ _ rfl B _ _ rfl (HO.out.alloc _) ⟨wr.heap.size, 0, none⟩ _ rfl (World.cell?_alloc_new _ _ _ 0) (by rw [tr_length]; omega) (Nat.le_trans (by rw [HB.out]; exact HW.out.size) (by simp)) ?_; intro v1 w1 hown hgrow))
        have HO1 := Lib.hid hown
        have HG1 := Lib.hid hgrow
        clear hown hgrow
        go_wp2
        go_roundw
        case rel => exact ⟨j + 1, by omega, by go_num, rfl, HO1.out, (HO.out.alloc _).step HG1.out (Nat.le_trans (by rw [HB.out]; exact HW.out.size) (by simp)) (HW.out.alloc (by rw [HB.out]; exact HW.out.size) _)⟩
        case measure => simp [intOf]; omega
      · have hlt' : ¬ (j : Int) < (n : Int) := by omega
        obtain rfl : j = n := by omega
        go_wp2
        go_ret
        rw [HB.out] at HO HW
        exact made HO.out HW.out
  all_goals
    have hF : trF p v k f s m = [] := by rw [trF, if_neg]; rw [trB, prsB, h1, h2, h3, h4]; decide
    rw [hF]
    clear hF
    go_enter Try.func26, Try.ntmps26
    go_wp2_with (first | (go_at_call 34; refine (wallFits_any _ _ _ _).mono ?_; rintro e w' ⟨rfl, rfl⟩) | (go_at_call 37; refine (within_any _ _ _ _).mono ?_; rintro e w' ⟨rfl, rfl⟩))
    go_ret
    first
      | exact made (Own.nil _ _) (Below.refl _ _)
      | exact made (Own.made _ _ (Nat.le_refl _)) ((Below.refl _ _).alloc (Nat.le_refl _) _)

set_option maxHeartbeats 1000000 in
theorem sTrace_any (p v k f s m : Int) (w : World) :
    Calls Try.prog 25 #[.int .i64 p, .int .i64 v, .int .i64 k, .int .i64 f, .int .i64 s, .int .i64 m] w (Made w (trF p v k f s m)) := by
  cases h1 : wallB p v k <;> cases h2 : inB f 1 1000 <;> cases h3 : inB s 1 200 <;> cases h4 : inB m 0 400
  case true.true.true.true =>
    have hB : trB p v k f s m = true := by rw [trB, prsB, h1, h2, h3, h4]; rfl
    have hF : trF p v k f s m = tr (prsStep v k f s) p m.toNat := by rw [trF, if_pos hB]
    obtain ⟨m1, m2⟩ := inB_t.1 h4
    obtain ⟨n, rfl⟩ := Int.eq_ofNat_of_zero_le m1
    rw [Int.toNat_natCast] at hF
    rw [hF]
    clear hF hB
    obtain ⟨B, hB⟩ : ∃ B, B = w.heap.size := ⟨_, rfl⟩
    have HB := Lib.hid hB
    clear hB
    go_enter Try.func25, Try.ntmps25
    go_wp2_with (first | (go_at_call 32; refine (l15Ok_any _ _ _ _).mono ?_; rintro e w' ⟨rfl, rfl⟩) | (go_at_call 35; refine (l1In_any _ _ _ _).mono ?_; rintro e w' ⟨rfl, rfl⟩))
    clear h1 h2 h3 h4
    go_loopw [0, 13, 14] (fun pv v' iv wr => ∃ j : Nat, j ≤ n ∧ iv = .int .i64 j ∧ pv = .int .i64 (it (prsStep v k f s) p j) ∧ Hid (Own wr B v' (tr (prsStep v k f s) p j)) ∧ Hid (Below B w wr)) (fun _ _ iv _ => n - (intOf iv).toNat)
    case atStart =>
      refine ⟨0, Nat.zero_le _, rfl, rfl, ?_, ?_⟩
      · show Own _ _ _ _
        rw [HB.out]
        first | exact Own.nil _ _ | exact Own.made _ _ (Nat.le_refl _)
      · show Below _ _ _
        rw [HB.out]
        first | exact Below.refl _ _ | exact (Below.refl _ _).alloc (Nat.le_refl _) _
    case round =>
      obtain ⟨j, hj, rfl, rfl, HO, HW⟩ := hrel
      by_cases hlt : j < n
      · have hlt' : (j : Int) < (n : Int) := by omega
        go_wp2_with (first | (go_at_call 13; refine (sPress_any _ _ _ _ _ _).mono ?_; rintro e w' ⟨rfl, rfl⟩) | (at_builtin; refine wpList_app rfl _ _ rfl B _ _ rfl (HO.out.alloc _) ⟨wr.heap.size, 0, none⟩ _ rfl (World.cell?_alloc_new _ _ _ 0) (by rw [tr_length]; omega) (Nat.le_trans (by rw [HB.out]; exact HW.out.size) (by simp)) ?_; intro v1 w1 hown hgrow))
        have HO1 := Lib.hid hown
        have HG1 := Lib.hid hgrow
        clear hown hgrow
        go_wp2
        go_roundw
        case rel => exact ⟨j + 1, by omega, by go_num, rfl, HO1.out, (HO.out.alloc _).step HG1.out (Nat.le_trans (by rw [HB.out]; exact HW.out.size) (by simp)) (HW.out.alloc (by rw [HB.out]; exact HW.out.size) _)⟩
        case measure => simp [intOf]; omega
      · have hlt' : ¬ (j : Int) < (n : Int) := by omega
        obtain rfl : j = n := by omega
        go_wp2
        go_ret
        rw [HB.out] at HO HW
        exact made HO.out HW.out
  all_goals
    have hF : trF p v k f s m = [] := by rw [trF, if_neg]; rw [trB, prsB, h1, h2, h3, h4]; decide
    rw [hF]
    clear hF
    go_enter Try.func25, Try.ntmps25
    go_wp2_with (first | (go_at_call 32; refine (l15Ok_any _ _ _ _).mono ?_; rintro e w' ⟨rfl, rfl⟩) | (go_at_call 35; refine (l1In_any _ _ _ _).mono ?_; rintro e w' ⟨rfl, rfl⟩))
    go_ret
    first
      | exact made (Own.nil _ _) (Below.refl _ _)
      | exact made (Own.made _ _ (Nat.le_refl _)) ((Below.refl _ _).alloc (Nat.le_refl _) _)

end Go.Proofs.Ytjklepabliehdaa
