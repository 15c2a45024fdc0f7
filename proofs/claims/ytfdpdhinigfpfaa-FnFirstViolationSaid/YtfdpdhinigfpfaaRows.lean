/-
  No cell of these rows narrows 'for every input' (looked for: loops, veiled, ifaces, maps, wideKeys, modest, calm, conditions, laid).
  DERIVED. THE GIVEN ROWS OF THIS SEAT. 10 by the template 'for every input the law returns true; each argument reads behind the call as it read before'; 0 by the template 'total and deterministic' (their statements: YtfdpdhinigfpfaaTotals.lean).
  GIVEN WITH THE SEED: the statements are not yours to turn. If you find one false, say at which input.
  Laid BY PROGRAM, IN A SANDBOX (cutbox-rows.mjs): the forced cells as the released guide's own fill.sh prints them over the translation 1d28b7793163b3b4… (all of the seat's roots in one cut). By AI agents, Wed Nov 11 2026. No macro, syntax, notation, axiom, sorry.
-/
import Derived.Test.YtfdpdhinigfpfaaChecked
import GoSem.Claim
import GoSem.ClaimJoined
import GoSem.ClaimMapViews
import Derived.JoinedTies
import Derived.KernelRfl
namespace Go.Proofs.Ytfdpdhinigfpfaa
/- THE CELL 'sum', in the pinned program and in every row, IS THE sha256 OF THE DUMP (.gsa) THAT YtfdpdhinigfpfaaProg.lean LOADS. Nothing in Lean hashes anything: it is a label: what it is worth is what the hold of that sum in a sandbox is worth. -/
noncomputable def Try.pinned : Pinned := { name := "ytfdpdhinigfpfaa", sum := "1d28b7793163b3b4a3c152f56952f994cb7361399d6e6ac092ecf18beae5515b", checked := Try.checked }
namespace Rows
def none {H : Type} : Left H := { results := [], args := [] }

/-- 'laws.FnExactSafeSpeed': WHATEVER THE INPUT: true; the input reads as it did. -/
def fnExactSafeSpeedSpec : ChangeSpec := { name := "fnExactSafeSpeed", fn := fun _ => fun
  | [d1, d2, d3] => { results := [.lit (.bool true)], args := [d1, d2, d3] }
  | _ => none }
def fnExactSafeSpeedRow : OpenClaim := { program := "ytfdpdhinigfpfaa", sum := "1d28b7793163b3b4a3c152f56952f994cb7361399d6e6ac092ecf18beae5515b", func := "loop.example/robotcell/laws.FnExactSafeSpeed", spec := "fnExactSafeSpeed", apart := false }
def FnExactSafeSpeedSaid : Prop := fnExactSafeSpeedRow.holds Try.pinned (OpenSpec.ofChange fnExactSafeSpeedSpec)

/-- ITS FALSE NEIGHBOUR: 'it returns false'. Refute it at one input. -/
def fnExactSafeSpeedWrong : ChangeSpec := { name := "fnExactSafeSpeed", fn := fun _ => fun
  | [d1, d2, d3] => { results := [.lit (.bool false)], args := [d1, d2, d3] }
  | _ => none }
def FnExactSafeSpeedWrongFalsely : Prop := fnExactSafeSpeedRow.holds Try.pinned (OpenSpec.ofChange fnExactSafeSpeedWrong)

/-- 'laws.FnStopSafe': WHATEVER THE INPUT: true; the input reads as it did. -/
def fnStopSafeSpec : ChangeSpec := { name := "fnStopSafe", fn := fun _ => fun
  | [d] => { results := [.lit (.bool true)], args := [d] }
  | _ => none }
def fnStopSafeRow : OpenClaim := { program := "ytfdpdhinigfpfaa", sum := "1d28b7793163b3b4a3c152f56952f994cb7361399d6e6ac092ecf18beae5515b", func := "loop.example/robotcell/laws.FnStopSafe", spec := "fnStopSafe", apart := false }
def FnStopSafeSaid : Prop := fnStopSafeRow.holds Try.pinned (OpenSpec.ofChange fnStopSafeSpec)

/-- ITS FALSE NEIGHBOUR: 'it returns false'. Refute it at one input. -/
def fnStopSafeWrong : ChangeSpec := { name := "fnStopSafe", fn := fun _ => fun
  | [d] => { results := [.lit (.bool false)], args := [d] }
  | _ => none }
def FnStopSafeWrongFalsely : Prop := fnStopSafeRow.holds Try.pinned (OpenSpec.ofChange fnStopSafeWrong)

/-- 'laws.FnSafeSpeed': WHATEVER THE INPUT: true; the input reads as it did. -/
def fnSafeSpeedSpec : ChangeSpec := { name := "fnSafeSpeed", fn := fun _ => fun
  | [d] => { results := [.lit (.bool true)], args := [d] }
  | _ => none }
def fnSafeSpeedRow : OpenClaim := { program := "ytfdpdhinigfpfaa", sum := "1d28b7793163b3b4a3c152f56952f994cb7361399d6e6ac092ecf18beae5515b", func := "loop.example/robotcell/laws.FnSafeSpeed", spec := "fnSafeSpeed", apart := false }
def FnSafeSpeedSaid : Prop := fnSafeSpeedRow.holds Try.pinned (OpenSpec.ofChange fnSafeSpeedSpec)

/-- ITS FALSE NEIGHBOUR: 'it returns false'. Refute it at one input. -/
def fnSafeSpeedWrong : ChangeSpec := { name := "fnSafeSpeed", fn := fun _ => fun
  | [d] => { results := [.lit (.bool false)], args := [d] }
  | _ => none }
def FnSafeSpeedWrongFalsely : Prop := fnSafeSpeedRow.holds Try.pinned (OpenSpec.ofChange fnSafeSpeedWrong)

/-- 'laws.FnZonesValid': WHATEVER THE INPUT: true; the input reads as it did. -/
def fnZonesValidSpec : ChangeSpec := { name := "fnZonesValid", fn := fun _ => fun
  | [d] => { results := [.lit (.bool true)], args := [d] }
  | _ => none }
def fnZonesValidRow : OpenClaim := { program := "ytfdpdhinigfpfaa", sum := "1d28b7793163b3b4a3c152f56952f994cb7361399d6e6ac092ecf18beae5515b", func := "loop.example/robotcell/laws.FnZonesValid", spec := "fnZonesValid", unfollowed := true, recurses := true, apart := false }
def FnZonesValidSaid : Prop := fnZonesValidRow.holds Try.pinned (OpenSpec.ofChange fnZonesValidSpec)

/-- ITS FALSE NEIGHBOUR: 'it returns false'. Refute it at one input. -/
def fnZonesValidWrong : ChangeSpec := { name := "fnZonesValid", fn := fun _ => fun
  | [d] => { results := [.lit (.bool false)], args := [d] }
  | _ => none }
def FnZonesValidWrongFalsely : Prop := fnZonesValidRow.holds Try.pinned (OpenSpec.ofChange fnZonesValidWrong)

/-- 'laws.FnExactZonesValid': WHATEVER THE INPUT: true; the input reads as it did. -/
def fnExactZonesValidSpec : ChangeSpec := { name := "fnExactZonesValid", fn := fun _ => fun
  | [d] => { results := [.lit (.bool true)], args := [d] }
  | _ => none }
def fnExactZonesValidRow : OpenClaim := { program := "ytfdpdhinigfpfaa", sum := "1d28b7793163b3b4a3c152f56952f994cb7361399d6e6ac092ecf18beae5515b", func := "loop.example/robotcell/laws.FnExactZonesValid", spec := "fnExactZonesValid", unfollowed := true, recurses := true, apart := false }
def FnExactZonesValidSaid : Prop := fnExactZonesValidRow.holds Try.pinned (OpenSpec.ofChange fnExactZonesValidSpec)

/-- ITS FALSE NEIGHBOUR: 'it returns false'. Refute it at one input. -/
def fnExactZonesValidWrong : ChangeSpec := { name := "fnExactZonesValid", fn := fun _ => fun
  | [d] => { results := [.lit (.bool false)], args := [d] }
  | _ => none }
def FnExactZonesValidWrongFalsely : Prop := fnExactZonesValidRow.holds Try.pinned (OpenSpec.ofChange fnExactZonesValidWrong)

/-- 'laws.FnExactSpeedLimit': WHATEVER THE INPUT: true; the input reads as it did. -/
def fnExactSpeedLimitSpec : ChangeSpec := { name := "fnExactSpeedLimit", fn := fun _ => fun
  | [d1, d2] => { results := [.lit (.bool true)], args := [d1, d2] }
  | _ => none }
def fnExactSpeedLimitRow : OpenClaim := { program := "ytfdpdhinigfpfaa", sum := "1d28b7793163b3b4a3c152f56952f994cb7361399d6e6ac092ecf18beae5515b", func := "loop.example/robotcell/laws.FnExactSpeedLimit", spec := "fnExactSpeedLimit", unfollowed := true, recurses := true, apart := false }
def FnExactSpeedLimitSaid : Prop := fnExactSpeedLimitRow.holds Try.pinned (OpenSpec.ofChange fnExactSpeedLimitSpec)

/-- ITS FALSE NEIGHBOUR: 'it returns false'. Refute it at one input. -/
def fnExactSpeedLimitWrong : ChangeSpec := { name := "fnExactSpeedLimit", fn := fun _ => fun
  | [d1, d2] => { results := [.lit (.bool false)], args := [d1, d2] }
  | _ => none }
def FnExactSpeedLimitWrongFalsely : Prop := fnExactSpeedLimitRow.holds Try.pinned (OpenSpec.ofChange fnExactSpeedLimitWrong)

/-- 'laws.FnSpeedLimit': WHATEVER THE INPUT: true; the input reads as it did. -/
def fnSpeedLimitSpec : ChangeSpec := { name := "fnSpeedLimit", fn := fun _ => fun
  | [d] => { results := [.lit (.bool true)], args := [d] }
  | _ => none }
def fnSpeedLimitRow : OpenClaim := { program := "ytfdpdhinigfpfaa", sum := "1d28b7793163b3b4a3c152f56952f994cb7361399d6e6ac092ecf18beae5515b", func := "loop.example/robotcell/laws.FnSpeedLimit", spec := "fnSpeedLimit", unfollowed := true, recurses := true, apart := false }
def FnSpeedLimitSaid : Prop := fnSpeedLimitRow.holds Try.pinned (OpenSpec.ofChange fnSpeedLimitSpec)

/-- ITS FALSE NEIGHBOUR: 'it returns false'. Refute it at one input. -/
def fnSpeedLimitWrong : ChangeSpec := { name := "fnSpeedLimit", fn := fun _ => fun
  | [d] => { results := [.lit (.bool false)], args := [d] }
  | _ => none }
def FnSpeedLimitWrongFalsely : Prop := fnSpeedLimitRow.holds Try.pinned (OpenSpec.ofChange fnSpeedLimitWrong)

/-- 'laws.FnZonesJoin': WHATEVER THE INPUT: true; the input reads as it did. -/
def fnZonesJoinSpec : ChangeSpec := { name := "fnZonesJoin", fn := fun _ => fun
  | [d] => { results := [.lit (.bool true)], args := [d] }
  | _ => none }
def fnZonesJoinRow : OpenClaim := { program := "ytfdpdhinigfpfaa", sum := "1d28b7793163b3b4a3c152f56952f994cb7361399d6e6ac092ecf18beae5515b", func := "loop.example/robotcell/laws.FnZonesJoin", spec := "fnZonesJoin", unfollowed := true, recurses := true, apart := false }
def FnZonesJoinSaid : Prop := fnZonesJoinRow.holds Try.pinned (OpenSpec.ofChange fnZonesJoinSpec)

/-- ITS FALSE NEIGHBOUR: 'it returns false'. Refute it at one input. -/
def fnZonesJoinWrong : ChangeSpec := { name := "fnZonesJoin", fn := fun _ => fun
  | [d] => { results := [.lit (.bool false)], args := [d] }
  | _ => none }
def FnZonesJoinWrongFalsely : Prop := fnZonesJoinRow.holds Try.pinned (OpenSpec.ofChange fnZonesJoinWrong)

/-- 'laws.FnFirstViolation': WHATEVER THE INPUT: true; the input reads as it did. -/
def fnFirstViolationSpec : ChangeSpec := { name := "fnFirstViolation", fn := fun _ => fun
  | [d] => { results := [.lit (.bool true)], args := [d] }
  | _ => none }
def fnFirstViolationRow : OpenClaim := { program := "ytfdpdhinigfpfaa", sum := "1d28b7793163b3b4a3c152f56952f994cb7361399d6e6ac092ecf18beae5515b", func := "loop.example/robotcell/laws.FnFirstViolation", spec := "fnFirstViolation", unfollowed := true, recurses := true, apart := false }
def FnFirstViolationSaid : Prop := fnFirstViolationRow.holds Try.pinned (OpenSpec.ofChange fnFirstViolationSpec)

/-- ITS FALSE NEIGHBOUR: 'it returns false'. Refute it at one input. -/
def fnFirstViolationWrong : ChangeSpec := { name := "fnFirstViolation", fn := fun _ => fun
  | [d] => { results := [.lit (.bool false)], args := [d] }
  | _ => none }
def FnFirstViolationWrongFalsely : Prop := fnFirstViolationRow.holds Try.pinned (OpenSpec.ofChange fnFirstViolationWrong)

/-- 'laws.FnExactFirstViolation': WHATEVER THE INPUT: true; the input reads as it did. -/
def fnExactFirstViolationSpec : ChangeSpec := { name := "fnExactFirstViolation", fn := fun _ => fun
  | [d1, d2] => { results := [.lit (.bool true)], args := [d1, d2] }
  | _ => none }
def fnExactFirstViolationRow : OpenClaim := { program := "ytfdpdhinigfpfaa", sum := "1d28b7793163b3b4a3c152f56952f994cb7361399d6e6ac092ecf18beae5515b", func := "loop.example/robotcell/laws.FnExactFirstViolation", spec := "fnExactFirstViolation", unfollowed := true, recurses := true, apart := false }
def FnExactFirstViolationSaid : Prop := fnExactFirstViolationRow.holds Try.pinned (OpenSpec.ofChange fnExactFirstViolationSpec)

/-- ITS FALSE NEIGHBOUR: 'it returns false'. Refute it at one input. -/
def fnExactFirstViolationWrong : ChangeSpec := { name := "fnExactFirstViolation", fn := fun _ => fun
  | [d1, d2] => { results := [.lit (.bool false)], args := [d1, d2] }
  | _ => none }
def FnExactFirstViolationWrongFalsely : Prop := fnExactFirstViolationRow.holds Try.pinned (OpenSpec.ofChange fnExactFirstViolationWrong)

/- THE SECOND FORM. 'bulk': how many values and letters a reading holds, each counted each time it is reached (what is shared counts as often as it is met; a slice's spare places count too). A statement '..UptoSaid' is the law's where the arguments, and the package variables that the reading takes, are together of bulk at most 1048576: NARROWER than '..Said'. Prove '..Said' where nothing that the law and all that it calls make is longer than what came in: it says more and counts as full. Else prove '..UptoSaid'. A law counts once. -/
mutual
def uptoBulk {H : Type} : DataW H → Nat
  | .lit (.string bytes) => bytes.length + 1
  | .lit _ => 1
  | .nil => 1
  | .ptr d => uptoBulk d + 1
  | .slice elems spare => uptoBulkAll elems + uptoBulkAll spare + 1
  | .agg parts => uptoBulkAll parts + 1
  | .iface _ d => uptoBulk d + 1
  | .map entries => uptoBulkEntries entries + 1
  | .held _ => 1
def uptoBulkAll {H : Type} : List (DataW H) → Nat
  | [] => 0
  | d :: r => uptoBulk d + uptoBulkAll r
def uptoBulkEntries {H : Type} : List (Lit × DataW H) → Nat
  | [] => 0
  | x :: r => uptoBulkEntry x + uptoBulkEntries r
def uptoBulkEntry {H : Type} : Lit × DataW H → Nat
  | (.string bytes, d) => bytes.length + uptoBulk d + 1
  | (_, d) => uptoBulk d + 1
 end
def uptoSmall : (H : Type) → List (DataW H) → Bool := fun _ ds => decide (uptoBulkAll ds ≤ 1048576)
def OpenSpec.upto (s : _root_.Go.ChangeSpec) : _root_.Go.OpenSpec := { _root_.Go.OpenSpec.ofChange s with cond := some uptoSmall }

/-- 'laws.FnExactSafeSpeed', WHERE WHAT IT READS IS OF BULK AT MOST 1048576: true; the input reads as it did. -/
def fnExactSafeSpeedUptoRow : OpenClaim := { program := "ytfdpdhinigfpfaa", sum := "1d28b7793163b3b4a3c152f56952f994cb7361399d6e6ac092ecf18beae5515b", func := "loop.example/robotcell/laws.FnExactSafeSpeed", spec := "fnExactSafeSpeed", apart := false, narrowed := true }
def FnExactSafeSpeedUptoSaid : Prop := fnExactSafeSpeedUptoRow.holds Try.pinned (OpenSpec.upto fnExactSafeSpeedSpec)

/-- 'laws.FnStopSafe', WHERE WHAT IT READS IS OF BULK AT MOST 1048576: true; the input reads as it did. -/
def fnStopSafeUptoRow : OpenClaim := { program := "ytfdpdhinigfpfaa", sum := "1d28b7793163b3b4a3c152f56952f994cb7361399d6e6ac092ecf18beae5515b", func := "loop.example/robotcell/laws.FnStopSafe", spec := "fnStopSafe", apart := false, narrowed := true }
def FnStopSafeUptoSaid : Prop := fnStopSafeUptoRow.holds Try.pinned (OpenSpec.upto fnStopSafeSpec)

/-- 'laws.FnSafeSpeed', WHERE WHAT IT READS IS OF BULK AT MOST 1048576: true; the input reads as it did. -/
def fnSafeSpeedUptoRow : OpenClaim := { program := "ytfdpdhinigfpfaa", sum := "1d28b7793163b3b4a3c152f56952f994cb7361399d6e6ac092ecf18beae5515b", func := "loop.example/robotcell/laws.FnSafeSpeed", spec := "fnSafeSpeed", apart := false, narrowed := true }
def FnSafeSpeedUptoSaid : Prop := fnSafeSpeedUptoRow.holds Try.pinned (OpenSpec.upto fnSafeSpeedSpec)

/-- 'laws.FnZonesValid', WHERE WHAT IT READS IS OF BULK AT MOST 1048576: true; the input reads as it did. -/
def fnZonesValidUptoRow : OpenClaim := { program := "ytfdpdhinigfpfaa", sum := "1d28b7793163b3b4a3c152f56952f994cb7361399d6e6ac092ecf18beae5515b", func := "loop.example/robotcell/laws.FnZonesValid", spec := "fnZonesValid", unfollowed := true, recurses := true, apart := false, narrowed := true }
def FnZonesValidUptoSaid : Prop := fnZonesValidUptoRow.holds Try.pinned (OpenSpec.upto fnZonesValidSpec)

/-- 'laws.FnExactZonesValid', WHERE WHAT IT READS IS OF BULK AT MOST 1048576: true; the input reads as it did. -/
def fnExactZonesValidUptoRow : OpenClaim := { program := "ytfdpdhinigfpfaa", sum := "1d28b7793163b3b4a3c152f56952f994cb7361399d6e6ac092ecf18beae5515b", func := "loop.example/robotcell/laws.FnExactZonesValid", spec := "fnExactZonesValid", unfollowed := true, recurses := true, apart := false, narrowed := true }
def FnExactZonesValidUptoSaid : Prop := fnExactZonesValidUptoRow.holds Try.pinned (OpenSpec.upto fnExactZonesValidSpec)

/-- 'laws.FnExactSpeedLimit', WHERE WHAT IT READS IS OF BULK AT MOST 1048576: true; the input reads as it did. -/
def fnExactSpeedLimitUptoRow : OpenClaim := { program := "ytfdpdhinigfpfaa", sum := "1d28b7793163b3b4a3c152f56952f994cb7361399d6e6ac092ecf18beae5515b", func := "loop.example/robotcell/laws.FnExactSpeedLimit", spec := "fnExactSpeedLimit", unfollowed := true, recurses := true, apart := false, narrowed := true }
def FnExactSpeedLimitUptoSaid : Prop := fnExactSpeedLimitUptoRow.holds Try.pinned (OpenSpec.upto fnExactSpeedLimitSpec)

/-- 'laws.FnSpeedLimit', WHERE WHAT IT READS IS OF BULK AT MOST 1048576: true; the input reads as it did. -/
def fnSpeedLimitUptoRow : OpenClaim := { program := "ytfdpdhinigfpfaa", sum := "1d28b7793163b3b4a3c152f56952f994cb7361399d6e6ac092ecf18beae5515b", func := "loop.example/robotcell/laws.FnSpeedLimit", spec := "fnSpeedLimit", unfollowed := true, recurses := true, apart := false, narrowed := true }
def FnSpeedLimitUptoSaid : Prop := fnSpeedLimitUptoRow.holds Try.pinned (OpenSpec.upto fnSpeedLimitSpec)

/-- 'laws.FnZonesJoin', WHERE WHAT IT READS IS OF BULK AT MOST 1048576: true; the input reads as it did. -/
def fnZonesJoinUptoRow : OpenClaim := { program := "ytfdpdhinigfpfaa", sum := "1d28b7793163b3b4a3c152f56952f994cb7361399d6e6ac092ecf18beae5515b", func := "loop.example/robotcell/laws.FnZonesJoin", spec := "fnZonesJoin", unfollowed := true, recurses := true, apart := false, narrowed := true }
def FnZonesJoinUptoSaid : Prop := fnZonesJoinUptoRow.holds Try.pinned (OpenSpec.upto fnZonesJoinSpec)

/-- 'laws.FnFirstViolation', WHERE WHAT IT READS IS OF BULK AT MOST 1048576: true; the input reads as it did. -/
def fnFirstViolationUptoRow : OpenClaim := { program := "ytfdpdhinigfpfaa", sum := "1d28b7793163b3b4a3c152f56952f994cb7361399d6e6ac092ecf18beae5515b", func := "loop.example/robotcell/laws.FnFirstViolation", spec := "fnFirstViolation", unfollowed := true, recurses := true, apart := false, narrowed := true }
def FnFirstViolationUptoSaid : Prop := fnFirstViolationUptoRow.holds Try.pinned (OpenSpec.upto fnFirstViolationSpec)

/-- 'laws.FnExactFirstViolation', WHERE WHAT IT READS IS OF BULK AT MOST 1048576: true; the input reads as it did. -/
def fnExactFirstViolationUptoRow : OpenClaim := { program := "ytfdpdhinigfpfaa", sum := "1d28b7793163b3b4a3c152f56952f994cb7361399d6e6ac092ecf18beae5515b", func := "loop.example/robotcell/laws.FnExactFirstViolation", spec := "fnExactFirstViolation", unfollowed := true, recurses := true, apart := false, narrowed := true }
def FnExactFirstViolationUptoSaid : Prop := fnExactFirstViolationUptoRow.holds Try.pinned (OpenSpec.upto fnExactFirstViolationSpec)

end Rows
end Go.Proofs.Ytfdpdhinigfpfaa
