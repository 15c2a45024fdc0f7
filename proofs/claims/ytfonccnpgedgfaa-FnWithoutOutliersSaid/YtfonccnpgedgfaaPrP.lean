/-
  Plain laws on lists of pairs: sums, offsets, slopes. No program in sight. No condition beyond those that each theorem states.
-/
import Derived.Test.YtfonccnpgedgfaaZl
namespace Go.Proofs.Ytfonccnpgedgfaa

/-- The measured and the true value of pair j. -/
def pX (zs : List Int) (j : Nat) : Int := zs.getD (j * 2) 0
def pY (zs : List Int) (j : Nat) : Int := zs.getD (j * 2 + 1) 0
def okP (zs : List Int) (j : Nat) : Bool := inB (pX zs j) (-1000) 1000 && inB (pY zs j) (-1000) 1000
def pairsB (n : Nat) (zs : List Int) : Bool := inB n 1 20 && allB (okP zs) n
theorem okP_t {zs : List Int} {j : Nat} : okP zs j = true ↔ (-1000 ≤ pX zs j ∧ pX zs j ≤ 1000) ∧ -1000 ≤ pY zs j ∧ pY zs j ≤ 1000 := by simp [okP, inB_t]
theorem pairsB_t {n : Nat} {zs : List Int} : pairsB n zs = true ↔ (1 ≤ n ∧ n ≤ 20) ∧ ∀ j, j < n → okP zs j = true := by
  simp only [pairsB, Bool.and_eq_true, allB_t, inB_t]
  constructor
  · rintro ⟨⟨h1, h2⟩, h⟩; exact ⟨⟨by omega, by omega⟩, h⟩
  · rintro ⟨⟨h1, h2⟩, h⟩; exact ⟨⟨by omega, by omega⟩, h⟩

/-- Sums of a sequence. -/
def sumN (f : Nat → Int) : Nat → Int
  | 0 => 0
  | n + 1 => sumN f n + f n
theorem sumN_congr {f g : Nat → Int} : ∀ {n : Nat}, (∀ j, j < n → f j = g j) → sumN f n = sumN g n
  | 0, _ => rfl
  | n + 1, h => by rw [sumN, sumN, sumN_congr (fun j hj => h j (by omega)), h n (by omega)]
theorem sumN_bd {f : Nat → Int} {A B : Int} : ∀ {n : Nat}, (∀ j, j < n → A ≤ f j ∧ f j ≤ B) → A * n ≤ sumN f n ∧ sumN f n ≤ B * n
  | 0, _ => by simp [sumN]
  | n + 1, h => by
    have h1 := sumN_bd (fun j hj => h j (Nat.lt_succ_of_lt hj))
    have h2 := h n (by omega)
    rw [sumN]
    push_cast
    rw [Int.mul_add, Int.mul_add, Int.mul_one, Int.mul_one]
    omega
theorem sumN_add (f g : Nat → Int) : ∀ n, sumN (fun j => f j + g j) n = sumN f n + sumN g n
  | 0 => rfl
  | n + 1 => by simp only [sumN, sumN_add f g n]; omega
theorem sumN_mul (f : Nat → Int) (c : Int) : ∀ n, sumN (fun j => c * f j) n = c * sumN f n
  | 0 => by simp [sumN]
  | n + 1 => by simp only [sumN, sumN_mul f c n, Int.mul_add]
theorem sumN_const (c : Int) : ∀ n : Nat, sumN (fun _ => c) n = c * n
  | 0 => by simp [sumN]
  | n + 1 => by rw [sumN, sumN_const c n]; push_cast; rw [Int.mul_add, Int.mul_one]
theorem sumN_split (f : Nat → Int) (h : Nat) : ∀ m, sumN f (h + m) = sumN f h + sumN (fun j => f (h + j)) m
  | 0 => by simp [sumN]
  | m + 1 => by rw [← Nat.add_assoc, sumN, sumN, sumN_split f h m]; omega
theorem sq_nonneg' (x : Int) : 0 ≤ x * x := by
  rcases Int.le_total 0 x with h | h
  · exact Int.mul_nonneg h h
  · have := Int.mul_nonneg (show 0 ≤ -x by omega) (show 0 ≤ -x by omega)
    rwa [Int.neg_mul_neg] at this
theorem sq_zero {x : Int} (h : x * x = 0) : x = 0 := by rcases Int.mul_eq_zero.1 h with h | h <;> exact h

/-- What is true less what is measured. -/
def pD (zs : List Int) (j : Nat) : Int := pY zs j - pX zs j
def sumD (zs : List Int) (n : Nat) : Int := sumN (pD zs) n
def errS (zs : List Int) (o : Int) (n : Nat) : Int := sumN (fun j => (pD zs j - o) * (pD zs j - o)) n
def fitG (zs : List Int) (n : Nat) : Int := (2 * sumD zs n + n) / (2 * n)
def fitF (zs : List Int) (n : Nat) : Int := if pairsB n zs = true then fitG zs n else 0
def errB (zs : List Int) (o : Int) (n : Nat) : Bool := pairsB n zs && inB o (-2000) 2000
def errF (zs : List Int) (o : Int) (n : Nat) : Int := if errB zs o n = true then errS zs o n else -1
theorem pD_bd {zs : List Int} {j : Nat} (h : okP zs j = true) : -2000 ≤ pD zs j ∧ pD zs j ≤ 2000 := by
  have := okP_t.1 h; unfold pD; omega
theorem sumD_bd {zs : List Int} {n : Nat} (h : ∀ j, j < n → okP zs j = true) : -2000 * n ≤ sumD zs n ∧ sumD zs n ≤ 2000 * n := sumN_bd fun j hj => pD_bd (h j hj)
theorem sq_bd {x A : Int} (h1 : -A ≤ x) (h2 : x ≤ A) : 0 ≤ x * x ∧ x * x ≤ A * A := by
  refine ⟨sq_nonneg' x, ?_⟩
  rcases Int.le_total 0 x with h | h
  · exact Int.mul_le_mul h2 h2 h (by omega)
  · have := Int.mul_le_mul (show -x ≤ A by omega) (show -x ≤ A by omega) (show 0 ≤ -x by omega) (show 0 ≤ A by omega)
    rwa [Int.neg_mul_neg] at this
theorem errS_bd {zs : List Int} {o : Int} {n : Nat} (h : ∀ j, j < n → okP zs j = true) (h1 : -2000 ≤ o) (h2 : o ≤ 2000) : 0 ≤ errS zs o n ∧ errS zs o n ≤ 16000000 * n := by
  have := sumN_bd (f := fun j => (pD zs j - o) * (pD zs j - o)) (A := 0) (B := 16000000) (n := n) (fun j hj => by
    have h3 := pD_bd (h j hj)
    have := sq_bd (x := pD zs j - o) (A := 4000) (by omega) (by omega)
    show 0 ≤ (pD zs j - o) * (pD zs j - o) ∧ (pD zs j - o) * (pD zs j - o) ≤ 16000000
    omega)
  unfold errS
  omega
/-- The error at a shifted offset. -/
theorem errS_shift (zs : List Int) (o e : Int) (n : Nat) : errS zs (o + e) n = errS zs o n - 2 * e * (sumD zs n - n * o) + n * (e * e) := by
  induction n with
  | zero => simp [errS, sumD, sumN]
  | succ n ih =>
    have e1 : errS zs (o + e) (n + 1) = errS zs (o + e) n + (pD zs n - (o + e)) * (pD zs n - (o + e)) := rfl
    have e2 : errS zs o (n + 1) = errS zs o n + (pD zs n - o) * (pD zs n - o) := rfl
    have e3 : sumD zs (n + 1) = sumD zs n + pD zs n := rfl
    rw [e1, e2, e3, ih]
    push_cast
    generalize pD zs n = d
    generalize sumD zs n = S
    generalize errS zs o n = E
    generalize (n : Int) = m
    grind
theorem fitG_le {zs : List Int} {n : Nat} (hn : 0 < n) : 2 * n * fitG zs n ≤ 2 * sumD zs n + n ∧ 2 * sumD zs n + n < 2 * n * fitG zs n + 2 * n := by
  unfold fitG
  have h1 := Int.mul_ediv_self_le (x := 2 * sumD zs n + n) (k := 2 * n) (by omega)
  have h2 := Int.lt_mul_ediv_self_add (x := 2 * sumD zs n + n) (k := 2 * n) (by omega)
  exact ⟨h1, h2⟩
theorem errS_best {zs : List Int} {n : Nat} (hn : 0 < n) : errS zs (fitG zs n) n ≤ errS zs (fitG zs n - 1) n ∧ errS zs (fitG zs n) n ≤ errS zs (fitG zs n + 1) n := by
  obtain ⟨h1, h2⟩ := fitG_le (zs := zs) hn
  have e1 := errS_shift zs (fitG zs n) (-1) n
  have e2 := errS_shift zs (fitG zs n) 1 n
  rw [show fitG zs n + -1 = fitG zs n - 1 by omega] at e1
  generalize fitG zs n = o at *
  generalize errS zs o n = E at *
  generalize errS zs (o - 1) n = E1 at *
  generalize errS zs (o + 1) n = E2 at *
  have e3 : 2 * (n : Int) * o = 2 * (n * o) := by rw [Int.mul_assoc]
  rw [e3] at h1 h2
  generalize (n : Int) * o = p at *
  constructor
  · rw [e1]; omega
  · rw [e2]; omega
theorem fitG_bd {zs : List Int} {n : Nat} (hn : 0 < n) {A B : Int} (h : ∀ j, j < n → A ≤ pD zs j ∧ pD zs j ≤ B) : A ≤ fitG zs n ∧ fitG zs n ≤ B := by
  have h1 : A * n ≤ sumD zs n ∧ sumD zs n ≤ B * n := sumN_bd h
  unfold fitG
  constructor
  · refine Int.le_ediv_of_mul_le (by omega) ?_
    have : A * (2 * n) = 2 * (A * n) := by rw [Int.mul_left_comm]
    omega
  · have : (2 * sumD zs n + n) / (2 * n) < B + 1 := by
      refine Int.ediv_lt_of_lt_mul (by omega) ?_
      have : (B + 1) * (2 * n) = 2 * (B * n) + 2 * n := by rw [Int.add_mul, Int.mul_left_comm]; omega
      omega
    omega
/-- Another list whose differences are greater by one. -/
theorem fitG_shift {zs us : List Int} {n : Nat} (hn : 0 < n) (h : ∀ j, j < n → pD us j = pD zs j + 1) : fitG us n = fitG zs n + 1 := by
  have e : sumD us n = sumD zs n + n := by
    unfold sumD
    rw [sumN_congr h, sumN_add, sumN_const, Int.one_mul]
  unfold fitG
  rw [e, show 2 * (sumD zs n + (n : Int)) + n = (2 * sumD zs n + n) + 1 * (2 * n) by omega, Int.add_mul_ediv_right _ _ (by omega)]
theorem errS_zero {zs : List Int} {o : Int} : ∀ {n : Nat}, errS zs o n = 0 ↔ ∀ j, j < n → pD zs j = o
  | 0 => by simp [errS, sumN]
  | n + 1 => by
    have e1 : errS zs o (n + 1) = errS zs o n + (pD zs n - o) * (pD zs n - o) := rfl
    have h0 : 0 ≤ errS zs o n := by
      have : ∀ m, 0 ≤ sumN (fun j => (pD zs j - o) * (pD zs j - o)) m := by
        intro m
        induction m with
        | zero => simp [sumN]
        | succ m ih => rw [sumN]; have := sq_nonneg' (pD zs m - o); omega
      exact this n
    have h1 := sq_nonneg' (pD zs n - o)
    rw [e1]
    constructor
    · intro h j hj
      have h2 : errS zs o n = 0 := by omega
      have h3 : pD zs n - o = 0 := sq_zero (by omega)
      by_cases hjn : j = n
      · subst hjn; omega
      · exact errS_zero.1 h2 j (by omega)
    · intro h
      rw [errS_zero.2 (fun j hj => h j (by omega)), h n (by omega)]
      simp

/-- Slopes. -/
def sX (zs : List Int) (n : Nat) : Int := sumN (pX zs) n
def sY (zs : List Int) (n : Nat) : Int := sumN (pY zs) n
def sXX (zs : List Int) (n : Nat) : Int := sumN (fun j => pX zs j * pX zs j) n
def sXY (zs : List Int) (n : Nat) : Int := sumN (fun j => pX zs j * pY zs j) n
def upF (zs : List Int) (n : Nat) : Int := n * sXY zs n - sX zs n * sY zs n
def downF (zs : List Int) (n : Nat) : Int := n * sXX zs n - sX zs n * sX zs n
theorem dist_nonneg (f : Nat → Int) (x : Int) : ∀ n : Nat, 0 ≤ sumN (fun j => f j * f j) n - 2 * x * sumN f n + n * (x * x)
  | 0 => by simp [sumN]
  | n + 1 => by
    have ih := dist_nonneg f x n
    have h1 := sq_nonneg' (f n - x)
    simp only [sumN]
    push_cast
    generalize sumN (fun j => f j * f j) n = Q at ih ⊢
    generalize sumN f n = S at ih ⊢
    generalize f n = y at h1 ⊢
    generalize (n : Int) = m at ih ⊢
    have e : Q + y * y - 2 * x * (S + y) + (m + 1) * (x * x) = (Q - 2 * x * S + m * (x * x)) + (y - x) * (y - x) := by grind
    rw [e]
    omega
theorem downF_nonneg (zs : List Int) : ∀ n : Nat, 0 ≤ downF zs n
  | 0 => by simp [downF, sX, sXX, sumN]
  | n + 1 => by
    have ih := downF_nonneg zs n
    have h1 := dist_nonneg (pX zs) (pX zs n) n
    unfold downF sX sXX at ih ⊢
    simp only [sumN]
    push_cast
    generalize sumN (fun j => pX zs j * pX zs j) n = Q at ih h1 ⊢
    generalize sumN (pX zs) n = S at ih h1 ⊢
    generalize pX zs n = x at h1 ⊢
    generalize (n : Int) = m at ih h1 ⊢
    have e : (m + 1) * (Q + x * x) - (S + x) * (S + x) = (m * Q - S * S) + (Q - 2 * x * S + m * (x * x)) := by grind
    rw [e]
    omega
/-- On an exact line. -/
theorem upF_line {zs : List Int} {n : Nat} (h : ∀ j, j < n → pY zs j = 3 * pX zs j - 7) : upF zs n = 3 * downF zs n := by
  have e1 : sY zs n = 3 * sX zs n - 7 * n := by
    unfold sY sX
    rw [sumN_congr h, show (fun j => 3 * pX zs j - 7) = (fun j => (fun j => 3 * pX zs j) j + (fun _ => (-7 : Int)) j) from funext fun j => by simp; omega, sumN_add, sumN_mul, sumN_const]
    omega
  have e2 : sXY zs n = 3 * sXX zs n - 7 * sX zs n := by
    unfold sXY sXX sX
    rw [sumN_congr (g := fun j => (fun j => 3 * (pX zs j * pX zs j)) j + (fun j => (-7) * pX zs j) j) (fun j hj => by rw [h j hj]; grind), sumN_add, sumN_mul (fun j => pX zs j * pX zs j), sumN_mul]
    omega
  unfold upF downF
  rw [e1, e2]
  generalize sXX zs n = Q
  generalize sX zs n = S
  generalize (n : Int) = m
  grind
/-- Where all true values are greater by c. -/
theorem up_shift {zs us : List Int} {n : Nat} {c : Int} (hx : ∀ j, j < n → pX us j = pX zs j) (hy : ∀ j, j < n → pY us j = pY zs j + c) : upF us n = upF zs n ∧ downF us n = downF zs n := by
  have e0 : sX us n = sX zs n := sumN_congr hx
  have e1 : sXX us n = sXX zs n := sumN_congr (fun j hj => by rw [hx j hj])
  have e2 : sY us n = sY zs n + c * n := by
    unfold sY
    rw [sumN_congr hy, sumN_add, sumN_const]
  have e3 : sXY us n = sXY zs n + c * sX zs n := by
    unfold sXY sX
    rw [sumN_congr (g := fun j => (fun j => pX zs j * pY zs j) j + (fun j => c * pX zs j) j) (fun j hj => by rw [hx j hj, hy j hj]; grind), sumN_add, sumN_mul]
  unfold upF downF
  rw [e0, e1, e2, e3]
  constructor
  · generalize sXY zs n = Q
    generalize sX zs n = S
    generalize sY zs n = Y
    generalize (n : Int) = m
    grind
  · rfl

/-- The greatest common divisor of numerator and denominator. -/
def gcdP (zs : List Int) (n : Nat) : Int := Int.gcd (upF zs n) (downF zs n)
def slopeB (zs : List Int) (n : Nat) : Bool := pairsB n zs && decide (downF zs n ≠ 0)
def slU (zs : List Int) (n : Nat) : Int := if slopeB zs n = true then upF zs n / gcdP zs n else 0
def slD (zs : List Int) (n : Nat) : Int := if slopeB zs n = true then downF zs n / gcdP zs n else 0
theorem slopeB_t {zs : List Int} {n : Nat} : slopeB zs n = true ↔ pairsB n zs = true ∧ downF zs n ≠ 0 := by simp [slopeB]
theorem gcdP_pos {zs : List Int} {n : Nat} (h : downF zs n ≠ 0) : 0 < gcdP zs n := by
  unfold gcdP
  have := Int.gcd_pos_of_ne_zero_right (a := upF zs n) h
  omega
theorem slD_pos {zs : List Int} {n : Nat} (h : slopeB zs n = true) : 0 < slD zs n := by
  have h1 := (slopeB_t.1 h).2
  have h2 := downF_nonneg zs n
  have h3 := gcdP_pos h1
  unfold slD
  rw [if_pos h]
  have h4 : gcdP zs n ∣ downF zs n := Int.gcd_dvd_right ..
  exact Int.ediv_pos_of_pos_of_dvd (by omega) (by omega) h4
theorem sl_low {zs : List Int} {n : Nat} (h : slopeB zs n = true) {d : Int} (hd : 2 ≤ d) : ¬ (slU zs n % d = 0 ∧ slD zs n % d = 0) := by
  rintro ⟨h1, h2⟩
  have hne := (slopeB_t.1 h).2
  have hp := gcdP_pos hne
  unfold slU slD at *
  rw [if_pos h] at h1 h2
  have d1 : d ∣ upF zs n / gcdP zs n := Int.dvd_of_emod_eq_zero h1
  have d2 : d ∣ downF zs n / gcdP zs n := Int.dvd_of_emod_eq_zero h2
  have g1 : gcdP zs n ∣ upF zs n := Int.gcd_dvd_left ..
  have g2 : gcdP zs n ∣ downF zs n := Int.gcd_dvd_right ..
  have m1 : gcdP zs n * d ∣ upF zs n := by
    have := Int.mul_dvd_mul_left (gcdP zs n) d1
    rwa [Int.mul_ediv_cancel' g1] at this
  have m2 : gcdP zs n * d ∣ downF zs n := by
    have := Int.mul_dvd_mul_left (gcdP zs n) d2
    rwa [Int.mul_ediv_cancel' g2] at this
  have m3 : gcdP zs n * d ∣ gcdP zs n := Int.dvd_coe_gcd m1 m2
  have m4 := Int.le_of_dvd hp m3
  have m5 : gcdP zs n * 2 ≤ gcdP zs n * d := Int.mul_le_mul_of_nonneg_left hd (by omega)
  omega
theorem slU_line {zs : List Int} {n : Nat} (h : slopeB zs n = true) (hl : ∀ j, j < n → pY zs j = 3 * pX zs j - 7) : slU zs n = 3 ∧ slD zs n = 1 := by
  have hne := (slopeB_t.1 h).2
  have h0 := downF_nonneg zs n
  have e := upF_line hl
  have g : gcdP zs n = downF zs n := by
    unfold gcdP
    rw [e, show Int.gcd (3 * downF zs n) (downF zs n) = (downF zs n).natAbs by simp [Int.gcd, Int.natAbs_mul]]
    omega
  unfold slU slD
  rw [if_pos h, if_pos h, g, e]
  exact ⟨Int.mul_ediv_cancel _ hne, Int.ediv_self hne⟩

end Go.Proofs.Ytfonccnpgedgfaa
