/-
  The contract of the reference's orders of finishing robots. Conditions: those that each theorem states.
-/
import Derived.Test.YtlahgikhndjfoaaFo2
import Derived.Deep.AppendLies
namespace Go.Proofs.Ytlahgikhndjfoaa
open Go.RowKit

set_option maxHeartbeats 1000000 in
theorem sEnough_any (x1 x2 a : Option Addr) (l1 l2 c1 c2 k kc : Nat) (z2 now : List Int) (w : World) (h2 : l2 = z2.length) (hk : k = now.length) (hlk : l2 = k) (i2 : Ints w x2 z2) (hn : Ints w a now) (m2 : k ≤ 1000000000) :
    Calls Try.prog 33 #[.agg #[.slice x1 l1 c1, .slice x2 l2 c2], .slice a k kc] w fun e w' => e = .returned (.bool (enB z2 now)) ∧ Up w w' := by
  subst hlk
  have I1 := Lib.hid i2
  have I2 := Lib.hid hn
  have H1 := Lib.hid h2
  have H2 := Lib.hid hk
  clear i2 hn h2 hk
  go_enter Try.func33, Try.ntmps33
  go_wp2
  go_loopw [5] (fun iv wr => ∃ j : Nat, j ≤ l2 ∧ iv = .int .i64 j ∧ Hid (∀ i, i < j → z2.getD i 0 ≤ now.getD i 0) ∧ ∃ d, wr = drw (w.alloc (.cells #[.slice x1 l1 c1, .slice x2 l2 c2] 34)) d) (fun iv _ => l2 - (intOf iv).toNat)
  case atStart => exact ⟨0, Nat.zero_le _, rfl, fun i hi => absurd hi (Nat.not_lt_zero _), _, drw_id.symm⟩
  case round =>
    obtain ⟨j, hj, rfl, HP, d, rfl⟩ := hrel
    by_cases hlt : j < l2
    · have hlt' : (j : Int) < (l2 : Int) := by omega
      rcases I1.out with h0 | ⟨b1, o1, rfl, g1⟩
      · have := H1.out; rw [h0] at this; simp at this; omega
      rcases I2.out with h0 | ⟨b2, o2, rfl, g2⟩
      · have := H2.out; rw [h0] at this; simp at this; omega
      have e1 := g1 j (by rw [← H1.out]; exact hlt)
      have e2 := g2 j (by rw [← H2.out]; exact hlt)
      have lb1 := World.block_lt_of_cell? _ _ e1
      have lb2 := World.block_lt_of_cell? _ _ e2
      simp only at lb1 lb2
      have ne1 := Nat.le_of_lt lb1
      have ne2 := Nat.le_of_lt lb2
      clear g1 g2
      have HX : Hid (now.getD j 0 < z2.getD j 0 → enB z2 now = false) := fun h => enB_f (by rw [← H2.out]; exact hlt) h
      have HY : Hid (z2.getD j 0 ≤ now.getD j 0 → ∀ i, i < j + 1 → z2.getD i 0 ≤ now.getD i 0) := fun h i hi => by
        by_cases hij : i = j
        · subst hij; exact h
        · exact HP.out i (by omega)
      generalize z2.getD j 0 = x at e1 HX HY
      generalize now.getD j 0 = y at e2 HX HY
      by_cases hxy : y < x
      · go_wp2
        go_quiet (fail)
        go_wp2
        go_ret
        exact ⟨by rw [HX.out hxy]; rfl, up_of_below (by repeat (first | with_reducible exact Below.refl _ _ | with_reducible apply below_alloc | with_reducible apply below_drw | with_reducible apply below_drew | with_reducible apply below_drewN | with_reducible apply below_plus | with_reducible apply below_set | (simp; done)))⟩
      · have hxy' : decide (y < x) = false := decide_eq_false hxy
        go_wp2
        go_quiet (fail)
        go_wp2
        go_roundw
        case rel => exact ⟨j + 1, by omega, by go_num, HY.out (by omega), _, rfl⟩
        case measure => simp [intOf]; omega
    · have hlt' : ¬ (j : Int) < (l2 : Int) := by omega
      obtain rfl : j = l2 := by omega
      go_wp2
      go_ret
      exact ⟨by rw [enB_t (by rw [← H2.out]; exact HP.out)]; rfl, up_of_below (by repeat (first | with_reducible exact Below.refl _ _ | with_reducible apply below_alloc | with_reducible apply below_drw | with_reducible apply below_drew | with_reducible apply below_drewN | with_reducible apply below_plus | with_reducible apply below_set | (simp; done)))⟩

/-! ### marks -/
theorem info_bool : (Try.prog.info? 4).map (fun i => (i.zero, i.size, i.bytes)) = some (some (.bool false), 1, 1) := by kernel_rfl
/-- Who has finished. -/
def bits (n : Nat) (out : List Nat) : List Value := (List.range n).map fun i => .bool (out.contains i)
theorem bits_nil (n : Nat) : (madeCells (Value.bool false).cells (n * 1)).toList = bits n [] := by
  apply List.ext_getElem
  · simp [madeCells, Value.cells, bits]
  · intro i h1 h2
    simp [madeCells, Value.cells, bits, Nat.mod_one]
theorem bits_at {n i : Nat} {out : List Nat} (h : i < n) : (bits n out)[i]? = some (.bool (out.contains i)) := by simp [bits, h]
theorem bits_set {n j : Nat} {out : List Nat} : (bits n out).set j (.bool true) = bits n (out ++ [j]) := by
  apply List.ext_getElem
  · simp [bits]
  · intro i h1 h2
    simp [bits] at h2
    rw [List.getElem_set]
    by_cases hi : j = i
    · subst hi; simp [bits]
    · rw [if_neg hi]
      have : ¬ i = j := fun e => hi e.symm
      simp [bits, this]
theorem row_kept {T T1 : TypeId} {k k1 n n1 : Nat} {w w' : World} {B B1 : Nat} {v v1 : Value} {us us1 : List Value} (h : w.ownsRow B T k v n us) (h1 : w.ownsRow B1 T1 k1 v1 n1 us1) (hg : w.grownBy w' v1.ownBlock) (hT : T ≠ T1) : w'.ownsRow B T k v n us :=
  World.ownsRow.kept h hg (types_part hT h h1)
theorem row_apart {T : TypeId} {k n : Nat} {w w' : World} {B : Nat} {v : Value} {us : List Value} {r : Option Nat} (h : w.ownsRow B T k v n us) (hg : w.grownBy w' r) (hne : ∀ g, r = some g → v.ownBlock ≠ some g) : w'.ownsRow B T k v n us := by
  refine World.ownsRow.kept h hg ?_
  cases hv : v.ownBlock with
  | none => exact .inl rfl
  | some g => exact .inr (fun e => hne g e.symm hv)

theorem grown_drew {w w' : World} {r : Option Nat} (h : w.grownBy w' r) : w.grownBy w'.drew r := ⟨h.os, h.tape, h.output, h.size, h.block⟩
/-- append(list, x): and where it lies. -/
theorem wpList_appL {ops : Array Oper} {rest : List Oper} {o : Oper} {a : Act} {w : World} {Q : Exit → Act → World → Prop} (hgd : o.guard = none) (s x : Operand)
    (ho : o.op = .call { callee := .builtin .append, args := #[s, x], argTypes := #[24, 24] }) (B : Nat) (v : Value) (zs : List Int) (hs : a.eval s = v) (hown : Own w B v zs) (b i : Nat) (y : Int)
    (hx : a.eval x = .slice (some ⟨b, i, none⟩) 1 1) (hy : w.cell? ⟨b, i, none⟩ = some (.int .i64 y)) (hlen : zs.length ≤ 1000000000) (hB : B ≤ w.heap.size)
    (h : ∀ g cap w', Own w' B (.slice (some ⟨g, 0, none⟩) (zs.length + 1) cap) (zs ++ [y]) → w.grownBy w' v.ownBlock → (v.ownBlock = some g ∨ g = w.heap.size) → wpList Try.prog ops Q rest (a.put o.dst (.slice (some ⟨g, 0, none⟩) (zs.length + 1) cap)) w') : wpList Try.prog ops Q (o :: rest) a w := by
  obtain ⟨i0, hi, hz0, hz1, hz2⟩ := info_parts info_int
  refine wpList_plain hgd fun K hK => wp_append_lies w s x 24 ho B 3 i0 (.int .i64 0) 1 8 Try.underlying24 hi hz0 hz1 hz2 rfl (by decide) v zs.length _ hs hown ⟨b, i, none⟩ 1 1 [.int .i64 y] hx rfl ?_ ?_ (by decide) (by unfold maxLen; omega) (by omega) hB _ rfl ?_
  · intro j u hj
    match j, hj with
    | 0, hj => simp at hj; subst hj; simpa [Addr.add] using hy
  · intro u hu; simp at hu; subst hu; rfl
  · intro g cap w' h1 h2 h3 _
    refine hK _ _ (h g cap w' ?_ h2 h3)
    unfold Own
    simpa using h1

/-- Where the search for an order stands. -/
structure Srch (wr w : World) (ov : Value) (gn cn gd n k : Nat) (rs : List (List Int)) (fs : List Int) (m : Nat) : Prop where
  out : Own wr w.heap.size ov (natI (runO rs n fs m).1)
  now : OwnG 3 1 wr w.heap.size (.slice (some ⟨gn, 0, none⟩) k cn) k (runO rs n fs m).2
  done : wr.ownsRow w.heap.size 4 1 (.slice (some ⟨gd, 0, none⟩) n n) n (bits n (runO rs n fs m).1)
  far : ∀ g, ov.ownBlock = some g → g ≠ gn
  bel : Below w.heap.size w wr
  len : (runO rs n fs m).1.length = m
theorem Srch.below {wr w wr' : World} {ov : Value} {gn cn gd n k m : Nat} {rs : List (List Int)} {fs : List Int} (h : Srch wr w ov gn cn gd n k rs fs m) (hb : Below wr.heap.size wr wr') : Srch wr' w ov gn cn gd n k rs fs m :=
  ⟨h.out.below hb, h.now.below hb, ownsRow_below h.done hb, h.far, h.bel.trans (hb.mono h.bel.size), h.len⟩
theorem Srch.plus {wr w : World} {ov : Value} {gn cn gd n k m : Nat} {rs : List (List Int)} {fs : List Int} (h : Srch wr w ov gn cn gd n k rs fs m) (os : Array Obj) (d : Nat) : Srch (plus wr os d) w ov gn cn gd n k rs fs m := h.below (below_plus (Below.refl _ _) os d)
/-- What is left of the search: nothing when no more came. -/
def msr2 (n : Nat) : Value → Value → Nat
  | .slice _ L _, .bool true => n + 1 - L
  | _, _ => 0
/-- What is known in the midst of a search: none so far, or one has come. -/
def Mid (rs : List (List Int)) (n : Nat) (fs : List Int) (m m' kk : Nat) (mb : Bool) : Prop :=
  (mb = false ∧ m' = m ∧ ∀ i, i < kk → canB rs (runO rs n fs m).1 (runO rs n fs m).2 i = false) ∨ (mb = true ∧ m' = m + 1 ∧ m' ≤ n)

set_option maxHeartbeats 4000000 in
theorem sFinish_any (a : Option Addr) (n c g off k kc : Nat) (rs : List (List Int)) (fs : List Int) (w : World) (hz : rs.length = n * 2) (hi : Grid w a rs) (hm : rowsMax rs 1000000000) (hn : n ≤ 1000000000) (hk : k = fs.length) (hfi : Ints w (some ⟨g, off, none⟩) fs) (hk0 : 1 ≤ k) (hk1 : k ≤ 1000000000) :
    Calls Try.prog 15 #[.slice a n c, .slice (some ⟨g, off, none⟩) k kc] w (Made w (ordF n rs fs)) := by
  have HI := Lib.hid hi
  have HZ := Lib.hid hz
  have HK := Lib.hid hk
  have HFI := Lib.hid hfi
  have HV := Lib.hid (fun W (h : Below w.heap.size w W) => sValid_any a (some ⟨g, off, none⟩) n c k kc rs fs W hz (hi.below h) hm hn hk (hfi.below h) hk1)
  clear hi hz hk hfi hm
  cases hV : claimsB n rs fs <;> rw [hV] at HV
  · have HR : Hid (ordF n rs fs = []) := by show ordF n rs fs = []; unfold ordF; rw [hV]; rfl
    clear hV
    go_enter Try.func15, Try.ntmps15
    go_wp2_with fail
    refine (HV.out _ ((Below.refl _ _).alloc (Nat.le_refl _) _)).mono ?_
    rintro e w1 ⟨rfl, rfl⟩
    go_wp2
    go_ret
    rw [HR.out]
    exact made (Own.made w w.heap.size (Nat.le_refl _)) ((Below.refl _ _).alloc (Nat.le_refl _) _)
  · obtain ⟨hn6, hk4, hsm, hrow⟩ := claims_t hV
    have HR : Hid (ordF n rs fs = natI (orderO rs n fs)) := by show ordF n rs fs = _; unfold ordF; rw [if_pos hV]
    have HRow := Lib.hid hrow
    have HVal := Lib.hid hV
    rw [← HK.out] at hk4
    obtain ⟨ib, hib, hib0, hib1, hib2⟩ := info_parts info_bool
    clear hV hrow hsm
    go_enter Try.func15, Try.ntmps15
    go_wp2_with fail
    refine (HV.out _ ((Below.refl _ _).alloc (Nat.le_refl _) _)).mono ?_
    rintro e w1 ⟨rfl, rfl⟩
    have HO0 := Lib.hid (Own.made w w.heap.size (Nat.le_refl _))
    have HB0 := Lib.hid ((Below.refl w.heap.size w).alloc (Nat.le_refl _) (.cells #[] 3))
    have hs0 : w.heap.size < (w.alloc (.cells #[] 3)).heap.size := by simp
    generalize w.alloc (.cells #[] 3) = w0 at HO0 HB0 hs0 ⊢
    clear HV
    go_wp2_with (first
      | (at_builtin
         refine wpList_appI rfl _ _ rfl w0.heap.size _ [] rfl (Own.made w0 w0.heap.size (Nat.le_refl _)) g off k kc fs rfl ((HFI.out.below HB0.out).below ((Below.refl _ _).alloc (Nat.le_refl _) _)) HK.out.symm (by simp; omega) (by simp) ?_
         intro v1 w2 hown hgrow
         rw [List.nil_append] at hown
         have hgr : Below w0.heap.size w0 w2 := ((Below.refl _ _).alloc (Nat.le_refl _) _).grown hgrow (by simp) (fun g hg => ((Own.made w0 w0.heap.size (Nat.le_refl _)).lt g hg).1)
         obtain ⟨gn, cn, rfl, hgn1, hgn2⟩ : ∃ gn cn, v1 = .slice (some ⟨gn, 0, none⟩) k cn ∧ w0.heap.size ≤ gn ∧ gn < w2.heap.size := by
           rcases hown.2 with ⟨_, h0⟩ | ⟨g', cap, cur, e, hb, hg, _⟩
           · have := HK.out; omega
           · exact ⟨g', cap, by rw [e, ← HK.out], hb, (Array.getElem?_eq_some_iff.1 hg).1⟩
         have HO2 := Lib.hid (HO0.out.below hgr)
         have HN2 : Hid (OwnG 3 1 w2 w.heap.size (.slice (some ⟨gn, 0, none⟩) k cn) k fs) := by
           have h1 := hown
           unfold Own at h1
           rw [← HK.out] at h1
           exact OwnG.more (B' := w.heap.size) h1 (by omega)
         have HB2 := Lib.hid (HB0.out.trans (hgr.mono HB0.out.size))
         clear hown hgrow hgr)
      | (at_make
         refine wpList_make_full _ rfl _ _ 32 rfl w.heap.size 4 ib _ 1 Try.underlying32 hib hib0 hib1 .i64 .i64 n n n rfl rfl rfl rfl (by rw [hib2]; omega) (by unfold maxLen; omega) HB2.out.size ?_
         intro w3 hown3 hgrow3))
    have hB3 : Below w2.heap.size w2 w3 := (Below.refl _ _).grown hgrow3 (Nat.le_refl _) (fun g hg => by cases hg)
    obtain ⟨gd, hgd⟩ : ∃ gd, gd = w2.heap.size := ⟨_, rfl⟩
    rw [← hgd] at hown3 ⊢
    have HF0 : Hid (Srch w3 w (.slice (some ⟨w.heap.size, 0, none⟩) 0 0) gn cn gd n k rs fs 0) := by
      refine ⟨HO2.out.below hB3, HN2.out.below hB3, ?_, fun g hg => ?_, HB2.out.trans (hB3.mono HB2.out.size), rfl⟩
      · rw [bits_nil] at hown3; exact hown3
      · simp [Value.ownBlock] at hg; omega
    have hgdn : gn < gd := by omega
    clear hown3 hgrow3 hB3 HO2 HN2 HB2 HB0 HO0 hgd
    go_loopw [5, 8] (fun ov mv wr => ∃ (m : Nat) (mb : Bool) (ao : Option Addr) (co : Nat), mv = .bool mb ∧ m ≤ n ∧ ov = .slice ao m co ∧ Hid (Srch wr w ov gn cn gd n k rs fs m) ∧ Hid (mb = false → nextO rs n fs m = none)) (fun ov mv _ => msr2 n ov mv)
    case atStart => exact ⟨0, true, _, _, rfl, Nat.zero_le _, rfl, HF0, fun h => by cases h⟩
    case round =>
      obtain ⟨m, mb, ao, co, rfl, hm, rfl, HS, HE⟩ := hrel
      cases mb
      · have HQ : Hid (orderO rs n fs = (runO rs n fs m).1) := order_stuck (HE.out rfl) hm
        go_wp2
        go_ret
        rw [HR.out, HQ.out]
        refine ⟨ao, co, by rw [natI_length, HS.out.len]; rfl, ?_, HS.out.bel⟩
        rw [natI_length, HS.out.len]
        exact HS.out.out
      · clear HE
        go_wp2
        go_loopw [5, 8, 9] (fun ov mv kv wi => ∃ (kk m' : Nat) (mb : Bool) (ao : Option Addr) (co : Nat), kk ≤ n ∧ kv = .int .i64 kk ∧ mv = .bool mb ∧ ov = .slice ao m' co ∧ Hid (Srch wi w ov gn cn gd n k rs fs m') ∧ Hid (Mid rs n fs m m' kk mb)) (fun _ _ kv _ => n - (intOf kv).toNat)
        case atStart => exact ⟨0, m, false, ao, co, Nat.zero_le _, rfl, rfl, rfl, HS, .inl ⟨rfl, rfl, fun i hi => absurd hi (Nat.not_lt_zero _)⟩⟩
        case round =>
          obtain ⟨kk, m', mb, ao', co', hkk, rfl, rfl, rfl, HT, HM⟩ := hrel
          cases mb
          · obtain ⟨rfl, hno⟩ : m' = m ∧ ∀ i, i < kk → canB rs (runO rs n fs m).1 (runO rs n fs m).2 i = false := by
              rcases HM.out with ⟨_, h1, h2⟩ | ⟨h, _⟩
              · exact ⟨h1, h2⟩
              · cases h
            have HNo := Lib.hid hno
            clear hno
            by_cases hlt : kk < n
            · have hlt' : (kk : Int) < (n : Int) := by omega
              obtain ⟨blk, off', x1, cx1, x2, cx2, rfl, hbk, d1, d2, _, _, r1, _, _, r2⟩ := HI.out.claim HZ.out hlt
              have hlh : (hold rs kk).length = k := (HRow.out kk hlt).1.1.trans HK.out.symm
              have hln : (need rs kk).length = k := (HRow.out kk hlt).2.1.trans HK.out.symm
              rw [hlh] at d1
              rw [hln] at d2
              have e1 := (HT.out.bel.cell (p := ⟨blk, off' + kk * 2, none⟩) hbk).trans d1
              have e2 := (HT.out.bel.cell (p := ⟨blk, off' + kk * 2 + 1, none⟩) hbk).trans d2
              have D1 := Lib.hid d1
              have hbki := Nat.lt_of_lt_of_le hbk HT.out.bel.size
              have b0 := (World.ownsRow.cellAt HT.out.done kk (by omega)).trans (bits_at hlt)
              have hgdl := (World.ownsRow.lt HT.out.done gd rfl)
              have HEn := Lib.hid (fun W (h : Below wr.heap.size wr W) => sEnough_any x1 x2 (some ⟨gn, 0, none⟩) k k cx1 cx2 k cn (need rs kk) (runO rs n fs m').2 W hln.symm (HK.out.trans run_now.symm) rfl (r2.below (HT.out.bel.trans (h.mono HT.out.bel.size))) (HT.out.now.below h).ints.2 hk1)
              have HLh := Lib.hid hlh
              have R1 := Lib.hid r1
              clear d1 d2 r1 r2 hlh hln
              cases hq : (runO rs n fs m').1.contains kk <;> rw [hq] at b0
              · cases hen : enB (need rs kk) (runO rs n fs m').2 <;> rw [hen] at HEn
                · have HC : Hid (Mid rs n fs m' m' (kk + 1) false) := .inl ⟨rfl, rfl, fun i hi => by
                    by_cases h : i = kk
                    · subst h; exact can_en hen
                    · exact HNo.out i (by omega)⟩
                  clear hq hen
                  go_wp2_with fail
                  refine (HEn.out _ (by repeat (first | with_reducible exact Below.refl _ _ | with_reducible apply below_alloc | with_reducible apply below_drw | with_reducible apply below_drew | with_reducible apply below_drewN | with_reducible apply below_plus | with_reducible apply below_set | (simp; done)))).mono ?_
                  rintro e w5 ⟨rfl, os, d, rfl⟩
                  go_wp2
                  go_roundw
                  case rel => exact ⟨kk + 1, m', false, ao', co', by omega, by go_num, rfl, rfl, HT.out.plus os d, HC.out⟩
                  case measure => simp [intOf]; omega
                · have HNext : Hid (nextO rs n fs m' = some kk) := firstB_some.2 ⟨hlt, by unfold canB; rw [hq, hen]; rfl, HNo.out⟩
                  clear hq hen
                  obtain ⟨b5, o5, rfl, hc5⟩ : ∃ b5 o5, x1 = some ⟨b5, o5, none⟩ ∧ ∀ i, i < (hold rs kk).length → w.cell? ⟨b5, o5 + i, none⟩ = some (.int .i64 ((hold rs kk).getD i 0)) := by
                    rcases R1.out with h0 | h1
                    · exfalso
                      have := HLh.out
                      rw [h0] at this
                      simp at this
                      omega
                    · exact h1
                  have C5 := Lib.hid hc5
                  obtain ⟨f, hf⟩ : ∃ f : Nat → Int, f = fun t => (runO rs n fs m').2.getD t 0 + (hold rs kk).getD t 0 := ⟨_, rfl⟩
                  have HFt : Hid (∀ t, f t = (runO rs n fs m').2.getD t 0 + (hold rs kk).getD t 0) := fun t => by rw [hf]
                  have HUk : Hid (upd f (runO rs n fs m').2 k = addL (runO rs n fs m').2 (hold rs kk)) := by
                    show upd f _ _ = _
                    rw [hf, ← upd_add, run_now, HK.out]
                  have HNw : Hid (k = (runO rs n fs m').2.length) := HK.out.trans run_now.symm
                  have HBd : Hid (∀ t, t < k → (0 ≤ (runO rs n fs m').2.getD t 0 ∧ (runO rs n fs m').2.getD t 0 ≤ 100 + 100 * (m' : Int)) ∧ 0 ≤ (hold rs kk).getD t 0 ∧ (hold rs kk).getD t 0 ≤ 100) := fun t ht => by
                    rw [HK.out] at ht
                    exact ⟨now_bound HVal.out ht m', hold_small HVal.out hlt ht⟩
                  clear hc5 hf
                  go_wp2_with fail
                  refine (HEn.out _ (by repeat (first | with_reducible exact Below.refl _ _ | with_reducible apply below_alloc | with_reducible apply below_drw | with_reducible apply below_drew | with_reducible apply below_drewN | with_reducible apply below_plus | with_reducible apply below_set | (simp; done)))).mono ?_
                  rintro e w5 ⟨rfl, os, d, rfl⟩
                  have HT5 := Lib.hid (HT.out.plus os d)
                  clear HT HEn e1 e2 b0 hbki hgdl
                  generalize plus wr os d = W5 at HT5 ⊢
                  have M := World.ownsRow.stored HT5.out.done kk (.bool true)
                  rw [bits_set] at M
                  have O6 := Lib.hid (show Own (W5.setCell ⟨gd, kk, none⟩ (.bool true)) w.heap.size (.slice ao' m' co') (natI (runO rs n fs m').1) from row_kept HT5.out.out HT5.out.done M.2 (by decide))
                  have N6 := Lib.hid (show OwnG 3 1 (W5.setCell ⟨gd, kk, none⟩ (.bool true)) w.heap.size (.slice (some ⟨gn, 0, none⟩) k cn) k (runO rs n fs m').2 from row_kept HT5.out.now HT5.out.done M.2 (by decide))
                  have D6 := Lib.hid M.1
                  have hgdl := World.ownsRow.lt HT5.out.done gd rfl
                  have B6 := Lib.hid (HT5.out.bel.setCell (p := ⟨gd, kk, none⟩) hgdl.1 (.bool true))
                  have FA := Lib.hid HT5.out.far
                  have HLe := Lib.hid HT5.out.len
                  have b0 : ∃ v, W5.cell? ⟨gd, kk, none⟩ = some v := ⟨_, (World.ownsRow.cellAt HT5.out.done kk (by omega)).trans (bits_at hlt)⟩
                  obtain ⟨v0, b0⟩ := b0
                  have fr0 := World.ownsRow.frozenAt HT5.out.done kk
                  have hw6 : w.heap.size ≤ W5.heap.size := HT5.out.bel.size
                  have hgn6 := (HT5.out.now.lt gn rfl).2
                  clear HT5 M
                  go_wp2_with (
                    at_builtin
                    refine wpList_appL rfl _ _ rfl w.heap.size _ (natI (runO rs n fs m').1) rfl ?_ _ 0 (kk : Int) rfl ?_ ?_ ?_ ?_
                    case refine_1 => exact O6.out.alloc _
                    case refine_2 => exact cell_new' (by simp [go_sem]) rfl
                    case refine_3 => rw [natI_length, HLe.out]; omega
                    case refine_4 => simp [go_sem]; omega
                    intro g6 cap6 w7 hown hgrow hlie
                    have hl : (natI (runO rs n fs m').1).length + 1 = m' + 1 := by rw [natI_length, HLe.out]
                    rw [hl] at hown ⊢
                    have O6a := O6.out.alloc (.cells #[.int .i64 (kk : Int)] 3)
                    have O7 := Lib.hid hown
                    have N7 := Lib.hid (show OwnG 3 1 w7 w.heap.size (.slice (some ⟨gn, 0, none⟩) k cn) k (runO rs n fs m').2 from row_apart (N6.out.alloc (.cells #[.int .i64 (kk : Int)] 3)) hgrow (fun q hq e => by simp only [Value.ownBlock, Option.some.injEq] at e; exact FA.out q hq e.symm))
                    have D7 := Lib.hid (row_kept (World.ownsRow.alloc D6.out (.cells #[.int .i64 (kk : Int)] 3)) O6a hgrow (by decide))
                    have B7 := Lib.hid ((B6.out.alloc (by simp; omega) (.cells #[.int .i64 (kk : Int)] 3)).grown hgrow (by simp; omega) (fun q hq => (O6a.lt q hq).1))
                    have F7 : Hid (g6 ≠ gn) := by
                      rcases hlie with h | h
                      · exact FA.out g6 h
                      · show g6 ≠ gn
                        rw [h]
                        simp
                        omega
                    have e1 := (B7.out.cell (p := ⟨blk, off' + kk * 2, none⟩) hbk).trans D1.out
                    clear hown hgrow hlie O6a b0 fr0)
                  go_loopw [10] (fun iv wx => ∃ t : Nat, t ≤ k ∧ iv = .int .i64 t ∧ Hid (OwnG 3 1 wx w.heap.size (.slice (some ⟨gn, 0, none⟩) k cn) k (upd f (runO rs n fs m').2 t)) ∧ Hid (w7.grownBy wx (some gn))) (fun iv _ => k - (intOf iv).toNat)
                  case atStart => exact ⟨0, Nat.zero_le _, rfl, by show OwnG _ _ _ _ _ _ _; rw [upd_zero]; exact N7.out, World.grownBy.refl _ _⟩
                  case round =>
                    obtain ⟨t, ht, rfl, HLi, HGi⟩ := hrel
                    have hgnw := (N7.out.lt gn rfl).1
                    have HWi := Lib.hid (B7.out.grown HGi.out B7.out.size (fun q hq => by simp at hq; omega))
                    by_cases htk : t < k
                    · have htk' : (t : Int) < (k : Int) := by omega
                      have c5 := C5.out t (by rw [HLh.out]; exact htk)
                      have c5' := (HWi.out.cell (p := ⟨b5, o5 + t, none⟩) (World.block_lt_of_cell? _ _ c5)).trans c5
                      have ex := (HWi.out.cell (p := ⟨blk, off' + kk * 2, none⟩) hbk).trans D1.out
                      have d0 := HLi.out.cell (j := t) (by rw [upd_length, ← HNw.out]; exact htk)
                      rw [upd_at (by rw [← HNw.out]; exact htk)] at d0
                      have fr := HLi.out.free t
                      have bg := (HLi.out.lt gn rfl).2
                      have M1 := HLi.out.upd (j := t) (by rw [← HNw.out]; exact htk)
                      have HM1 := Lib.hid M1
                      have bd := HBd.out t htk
                      have wr1 : IntKind.i64.wrap ((runO rs n fs m').2.getD t 0 + (hold rs kk).getD t 0) = f t := by rw [HFt.out]; exact IntWalk.i64_in _ (by omega)
                      generalize (runO rs n fs m').2.getD t 0 = x at d0 wr1
                      generalize (hold rs kk).getD t 0 = h at c5' wr1
                      clear c5 M1 bd e1
                      go_wp2
                      go_region
                      go_wp2
                      go_roundw
                      case rel => exact ⟨t + 1, by omega, by go_num, HM1.out.1, grown_trans HGi.out (grown_drew HM1.out.2)⟩
                      case measure => simp [intOf]; omega
                    · have htk' : ¬ (t : Int) < (k : Int) := by omega
                      obtain rfl : t = k := by omega
                      have HF2 : Hid (Srch wr w (.slice (some ⟨g6, 0, none⟩) (m' + 1) cap6) gn cn gd n t rs fs (m' + 1)) := by
                        refine ⟨?_, ?_, ?_, fun q hq => ?_, HWi.out, ?_⟩
                        · rw [run_some HNext.out, natI_snoc]
                          exact row_apart O7.out HGi.out (fun q hq e => by simp only [Value.ownBlock, Option.some.injEq] at hq e; exact F7.out (by omega))
                        · rw [run_some HNext.out, ← HUk.out]
                          exact HLi.out
                        · rw [run_some HNext.out]
                          exact row_apart D7.out HGi.out (fun q hq e => by simp only [Value.ownBlock, Option.some.injEq] at hq e; omega)
                        · simp only [Value.ownBlock, Option.some.injEq] at hq
                          subst hq
                          exact F7.out
                        · rw [run_some HNext.out]
                          simp [HLe.out]
                      have hle := next_le HNext.out
                      go_wp2
                      go_roundw
                      case rel => exact ⟨kk + 1, m' + 1, true, _, _, by omega, by go_num, rfl, rfl, HF2.out, .inr ⟨rfl, rfl, hle⟩⟩
                      case measure => simp [intOf]; omega
              · have HC : Hid (Mid rs n fs m' m' (kk + 1) false) := .inl ⟨rfl, rfl, fun i hi => by
                  by_cases h : i = kk
                  · subst h; exact can_in hq
                  · exact HNo.out i (by omega)⟩
                clear hq
                go_wp2
                go_roundw
                case rel => exact ⟨kk + 1, m', false, ao', co', by omega, by go_num, rfl, rfl, HT, HC.out⟩
                case measure => simp [intOf]; omega
            · have hlt' : ¬ (kk : Int) < (n : Int) := by omega
              obtain rfl : kk = n := by omega
              go_wp2
              go_roundw
              case rel => exact ⟨m', false, ao', co', rfl, hm, rfl, HT, fun _ => firstB_none.2 HNo.out⟩
              case measure => show 0 < kk + 1 - m'; omega
          · obtain ⟨rfl, hmn⟩ : m' = m + 1 ∧ m' ≤ n := by
              rcases HM.out with ⟨h, _⟩ | ⟨_, h1, h2⟩
              · cases h
              · exact ⟨h1, h2⟩
            by_cases hlt : kk < n
            · have hlt' : (kk : Int) < (n : Int) := by omega
              go_wp2
              go_roundw
              case rel => exact ⟨m + 1, true, ao', co', rfl, hmn, rfl, HT, fun h => by cases h⟩
              case measure => show n + 1 - (m + 1) < n + 1 - m; omega
            · have hlt' : ¬ (kk : Int) < (n : Int) := by omega
              go_wp2
              go_roundw
              case rel => exact ⟨m + 1, true, ao', co', rfl, hmn, rfl, HT, fun h => by cases h⟩
              case measure => show n + 1 - (m + 1) < n + 1 - m; omega

end Go.Proofs.Ytlahgikhndjfoaa
