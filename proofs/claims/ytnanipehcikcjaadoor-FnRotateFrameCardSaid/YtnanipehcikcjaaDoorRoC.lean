/-
  The law on rotated points and frames: it returns true wherever the listed tables read as listed, and its argument reads afterwards as before; and its card, tied to the program's text.
-/
import Derived.Test.YtnanipehcikcjaaDoorRoL
import Derived.Test.YtnanipehcikcjaaDoorTie
import Derived.Test.YtnanipehcikcjaaDoorCards
import Derived.ProofKit
import Derived.LaidMore
import Derived.OpenShut
import Derived.ShutString
import Derived.ChangeOld
import Derived.Below
import Derived.Lib.SmallJoins
import Derived.Stop.Joined
import Derived.SevenTiedAt
namespace Go.Proofs.YtnanipehcikcjaaDoor.lFnRotateFrame
open Go Go.ChangeShapes Go.WideShapes Go.ChangeAt Go.RowKit Go.Joins
set_option linter.unusedVariables false

theorem own : ownKnob Tryd.prog.godebug = Option.none := by kernel_rfl
theorem laidOut : laidOutB Tryd.prog = true := by kernel_rfl
/-- The listed variables. -/
def laid3 : List (String × DataW Unit) := [("math._sin", Rows.laid_math_sin), ("math._cos", Rows.laid_math_cos), ("math.mPi4", Rows.laid_math_mPi4)]
theorem gCos : Tryd.prog.globalNamed "math._cos" = some 1 := by kernel_rfl
theorem tCos : (Tryd.prog.globals[1]?).map (·.type) = some 59 := by kernel_rfl
theorem uCos : Tryd.prog.underlying 59 = some (.array 6 48) := by kernel_rfl
theorem uFloat : Tryd.prog.underlying 48 = some (.float .f64) := by kernel_rfl
theorem cFloat : Tryd.prog.cellsOf 48 = 1 := by kernel_rfl

theorem trod_float {H : Type} {enc : TypeId × Value → H} {P : Program} {w : World} {base : Nat} {spare : Nat → Bool} {held : Bool} {fuel : Nat} {t : TypeId} {cs : List Value} {x : DataW H × List MemPlace} {k : FloatKind}
    (ht : P.underlying t = some (.float k)) (h : DataW.trod enc P w base spare held fuel t cs = some x) : ∃ n, cs = [.float k n] ∧ x = (.lit (.float k n), []) := by
  cases fuel with
  | zero => simp [DataW.trod] at h
  | succ n =>
    unfold DataW.trod at h
    rw [ht] at h
    split at h <;> simp_all

/-- The door's own heap meets the condition: three closed facts. -/
theorem door_met (os : Os) (args : Array Value) : laidMetH Tryd.prog laid3 ((World.doorLaid Tryd.prog 4000 os).forCall (fun _ _ => 0) ⟨#[], args, []⟩).memory :=
  laidMetH_of_parts3 (fuel := 8) (laidMet_of_run' 8 (by kernel_rfl) (by kernel_rfl)) (by kernel_rfl) (by kernel_rfl)

/-- What the condition gives the walk: the cosine's cells. -/
theorem of_laid {W : World} (h : laidMetH Tryd.prog laid3 W) : CosT W := by
  rw [MakeChecks.laidMetH_plain _ _ _ (by kernel_rfl)] at h
  obtain ⟨ps, ⟨g0, t0, cs0, f0, p0, q0, hg0, ht0, hv0, hd0, ⟨g1, t1, cs1, f1, p1, q1, hg1, ht1, hv1, hd1, _, _⟩, _⟩, _, _⟩ := h
  obtain rfl := Option.some.inj (gCos.symm.trans hg1)
  obtain rfl := Option.some.inj (tCos.symm.trans ht1)
  obtain ⟨xs, m, rfl, hx, hlen, hn, hel⟩ := DataW.trod_array uCos hd1
  have hx1 := congrArg Prod.fst hx
  simp only [Rows.laid_math_cos, DataW.agg.injEq] at hx1
  have cell : ∀ (i : Nat) (q : Nat), i < 6 → (xs.map (·.1))[i]? = some (.lit (.float .f64 q)) → W.cell? ⟨1, i, Option.none⟩ = some (.float .f64 q) := by
    intro i q hi hq
    obtain ⟨x, hxi, hxq⟩ : ∃ x, xs[i]? = some x ∧ x.1 = .lit (.float .f64 q) := by
      rw [List.getElem?_map] at hq
      cases hx : xs[i]? with
      | none => rw [hx] at hq; simp at hq
      | some x => rw [hx] at hq; exact ⟨x, rfl, by simpa using hq⟩
    have h2 := (hel i hi).trans hxi
    rw [cFloat] at h2
    obtain ⟨r, e1, e2⟩ := trod_float uFloat h2
    rw [e2] at hxq
    obtain rfl : r = q := by simpa using hxq
    have h3 := World.var?_cell hg1 hv1 i
    rw [h3, ← Array.getElem?_toList]
    have h4 : ((cs1.toList.drop (i * 1)).take 1)[0]? = some (.float .f64 r) := by rw [e1]; rfl
    simpa using h4
  rw [← hx1] at cell
  exact ⟨cell 0 _ (by decide) rfl, cell 1 _ (by decide) rfl, cell 2 _ (by decide) rfl, cell 3 _ (by decide) rfl, cell 4 _ (by decide) rfl, cell 5 _ (by decide) rfl⟩

set_option maxRecDepth 100000 in
theorem lifted (os : Os) (started : os.Started) (H : Type) (enc : TypeId × Value → H) :
    ReturnsInHanded {} Tryd.checked os 3 .any (fun w args => (Rows.fnRotateFrameSpec.pre enc Tryd.prog Tryd.f3 [] false w args ∧ laidMetH Tryd.prog laid3 w) ∧ sizedMet enc Tryd.prog Tryd.f3 (OpenSpec.ofChange Rows.fnRotateFrameSpec) false w args)
      (Rows.fnRotateFrameSpec.post enc Tryd.prog Tryd.f3 false true false false) := by
  refine returnsInHanded_of_change_and (C := Tryd.checked) (X := fun w _ => laidMetH Tryd.prog laid3 w) (fun _ _ _ hh h => h.of_heap hh) own started (by kernel_rfl) Tryd.func3
    (ChangeSpec.witness_shaped (enc := enc) (C := Tryd.checked) (os := os) (X := fun w _ => laidMetH Tryd.prog laid3 w) false (World.doorLaid Tryd.prog 4000 os) #[.slice Option.none 0 0] 8 rfl (World.shaped_of_RefB (by kernel_rfl) (by kernel_rfl)) (by kernel_rfl) (by kernel_rfl) (by kernel_rfl) (door_met os _)) ?_
  intro W base args ds gs before hval0 hW _ _ hL _
  have hval : ∀ (j : Nat) t v, Tryd.f3.params[j]? = some t → args[j]? = some v → Value.okWide Tryd.prog W .any base t v := hval0
  have hW' := hW
  obtain ⟨p, q, hA0, hV, rfl, hfz, hnd⟩ := hW
  have hA : DataW.TrodAll enc Tryd.prog W 0 (fun _ => true) true Tryd.f3.params.toList args.toList ds p := hA0
  rw [Tryd.params3] at hA hval
  obtain ⟨v0, vs0, d0, ds0, p0, q0, hargs, rfl, rfl, h0, r0⟩ := trodAll_cons hA
  obtain ⟨rfl, rfl, rfl⟩ := trodAll_nil r0
  obtain rfl : args = #[v0] := by cases args; simp_all
  obtain ⟨rfl, rfl⟩ := trodVars_none hV
  have k0 := h0
  have lt0 : ∀ x ∈ p0, x.block < W.heap.size := by obtain ⟨m, hm⟩ := k0; exact DataW.trod_lt m _ _ _ hm
  obtain ⟨a0, n0, c0, rfl⟩ := okWide_slice Tryd.underlying22 (hval 0 22 v0 rfl rfl)
  obtain ⟨hb0, hnc0, hcm0⟩ : Bytes W W.heap.size a0 n0 ∧ n0 ≤ c0 ∧ c0 ≤ maxLen := by
    obtain ⟨fuel, hf⟩ := h0
    rcases open_ints Tryd.underlying22 Tryd.underlying5 (by kernel_rfl) hf with ⟨hcs, _⟩ | ⟨x, l, c, zs, hcs, _, hl, hm, hz, _, hcell, hwz⟩
    · simp [Value.cells] at hcs
      obtain ⟨rfl, rfl, rfl⟩ := hcs
      exact ⟨.inl rfl, Nat.le_refl _, Nat.zero_le _⟩
    · simp [Value.cells] at hcs
      obtain ⟨rfl, rfl, rfl⟩ := hcs
      refine ⟨bytes_of_row hl (by simpa using hz) hcell hwz, hl, hm⟩
  have hC := of_laid hL
  clear hA0 hval0
  refine (lawRotateFrame_any a0 n0 c0 W hC hb0 hnc0 hcm0).mono fun e W' ⟨he, hup⟩ => ?_
  have bel := hup.below
  subst he
  exact ⟨_, rfl, _, _, _, [], _, [], hW', trodAll_mk1 (shut_bool Tryd.underlying4 _), (trodAll_cons_mk (Below.trod laidOut (by kernel_rfl) (of_decide_eq_true (by kernel_rfl)) k0 bel lt0) trodAll_mk0), rfl, bel.frame _, fun h => by cases h⟩

theorem over : Rows.fnRotateFrameRow.holds Tryd.pinned (OpenSpec.ofChange Rows.fnRotateFrameSpec) :=
  OpenClaim.holds_of_wide 3 Tryd.f3 rfl rfl rfl rfl rfl rfl rfl ⟨rfl, rfl, rfl, rfl, rfl⟩ rfl rfl rfl rfl rfl (by kernel_rfl) Tryd.func3 (by kernel_rfl)
    (of_decide_eq_true (by kernel_rfl)) (by unfold Func.isWrapper; first | (rw [if_pos (by decide +kernel)]; kernel_rfl) | (rw [if_neg (by decide +kernel)]; exact ⟨rfl, rfl⟩))
    (fun os started H enc _ => lifted os started H enc)
theorem holds : Rows.FnRotateFrameSaid := over

/-- The card, tied to the program's text. -/
theorem proved : Rows.FnRotateFrameCardSaid :=
  Claim7.holds_tied_plain_at .later [] [.data, .data, .data] true (true, "46f6a8ad7dcb594639f0b605c189114530f3c04b3dded1f5845de3ebc621ba68") false
    holds (fun _ h => by cases h) (by kernel_rfl) (fun _ h => by cases h) fnRotateFrame_row_tie rfl ⟨rfl, rfl⟩ (by kernel_rfl) rfl
    (fun f fn hf hfn => by
      obtain rfl : f = 3 := Option.some.inj ((show Tryd.prog.funcNamed "loop.example/robotcell/laws.FnRotateFrame" = some 3 by kernel_rfl).symm.trans hf) |>.symm
      obtain rfl : fn = Tryd.f3 := (Option.some.inj (Tryd.func3.symm.trans hfn)).symm
      exact ⟨by kernel_rfl, fun j t ht => by
        rw [Tryd.params3] at ht
        have hm : t ∈ [22] := by simpa using Array.mem_of_getElem? ht
        have hall : ([22].all fun u => !Tryd.prog.wantsStandIn u) = true := by kernel_rfl
        exact (show Tryd.prog.wantsStandIn t = false by simpa using List.all_eq_true.1 hall t hm)⟩)
    (by kernel_rfl)
#print axioms proved
end Go.Proofs.YtnanipehcikcjaaDoor.lFnRotateFrame
