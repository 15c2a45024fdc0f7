/-
  No cell of these rows narrows 'for every input' (looked for: loops, veiled, ifaces, maps, wideKeys, modest, calm, conditions, laid).
  DERIVED. THE GIVEN ROWS OF THIS SEAT. 4 by the template 'for every input the law returns true; each argument reads behind the call as it read before'; 0 by the template 'total and deterministic' (their statements: YtlahgikhndjfoaaTotals.lean).
  GIVEN WITH THE SEED: the statements are not yours to turn. If you find one false, say at which input.
  Laid BY PROGRAM, IN A SANDBOX (cutbox-rows.mjs): the forced cells as the released guide's own fill.sh prints them over the translation 88281415c3803cb1… (all of the seat's roots in one cut). By AI agents, Wed Nov 11 2026. No macro, syntax, notation, axiom, sorry.
-/
import Derived.Test.YtlahgikhndjfoaaChecked
import GoSem.Claim
import GoSem.ClaimJoined
import GoSem.ClaimMapViews
import Derived.JoinedTies
import Derived.KernelRfl
namespace Go.Proofs.Ytlahgikhndjfoaa
/- THE CELL 'sum', in the pinned program and in every row, IS THE sha256 OF THE DUMP (.gsa) THAT YtlahgikhndjfoaaProg.lean LOADS. Nothing in Lean hashes anything: it is a label: what it is worth is what the hold of that sum in a sandbox is worth. -/
noncomputable def Try.pinned : Pinned := { name := "ytlahgikhndjfoaa", sum := "88281415c3803cb188e67e488e03c0c5e4978aca4d48cd13ca4a9ac50a3d6a8c", checked := Try.checked }
namespace Rows
def none {H : Type} : Left H := { results := [], args := [] }

/-- 'laws.FnStateSafe': WHATEVER THE INPUT: true; the input reads as it did. -/
def fnStateSafeSpec : ChangeSpec := { name := "fnStateSafe", fn := fun _ => fun
  | [d] => { results := [.lit (.bool true)], args := [d] }
  | _ => none }
def fnStateSafeRow : OpenClaim := { program := "ytlahgikhndjfoaa", sum := "88281415c3803cb188e67e488e03c0c5e4978aca4d48cd13ca4a9ac50a3d6a8c", func := "loop.example/robotcell/laws.FnStateSafe", spec := "fnStateSafe", unfollowed := true, recurses := true, apart := false }
def FnStateSafeSaid : Prop := fnStateSafeRow.holds Try.pinned (OpenSpec.ofChange fnStateSafeSpec)

/-- ITS FALSE NEIGHBOUR: 'it returns false'. Refute it at one input. -/
def fnStateSafeWrong : ChangeSpec := { name := "fnStateSafe", fn := fun _ => fun
  | [d] => { results := [.lit (.bool false)], args := [d] }
  | _ => none }
def FnStateSafeWrongFalsely : Prop := fnStateSafeRow.holds Try.pinned (OpenSpec.ofChange fnStateSafeWrong)

/-- 'laws.FnFinishOrder': WHATEVER THE INPUT: true; the input reads as it did. -/
def fnFinishOrderSpec : ChangeSpec := { name := "fnFinishOrder", fn := fun _ => fun
  | [d] => { results := [.lit (.bool true)], args := [d] }
  | _ => none }
def fnFinishOrderRow : OpenClaim := { program := "ytlahgikhndjfoaa", sum := "88281415c3803cb188e67e488e03c0c5e4978aca4d48cd13ca4a9ac50a3d6a8c", func := "loop.example/robotcell/laws.FnFinishOrder", spec := "fnFinishOrder", unfollowed := true, recurses := true, apart := false }
def FnFinishOrderSaid : Prop := fnFinishOrderRow.holds Try.pinned (OpenSpec.ofChange fnFinishOrderSpec)

/-- ITS FALSE NEIGHBOUR: 'it returns false'. Refute it at one input. -/
def fnFinishOrderWrong : ChangeSpec := { name := "fnFinishOrder", fn := fun _ => fun
  | [d] => { results := [.lit (.bool false)], args := [d] }
  | _ => none }
def FnFinishOrderWrongFalsely : Prop := fnFinishOrderRow.holds Try.pinned (OpenSpec.ofChange fnFinishOrderWrong)

/-- 'laws.FnClaimsValid': WHATEVER THE INPUT: true; the input reads as it did. -/
def fnClaimsValidSpec : ChangeSpec := { name := "fnClaimsValid", fn := fun _ => fun
  | [d] => { results := [.lit (.bool true)], args := [d] }
  | _ => none }
def fnClaimsValidRow : OpenClaim := { program := "ytlahgikhndjfoaa", sum := "88281415c3803cb188e67e488e03c0c5e4978aca4d48cd13ca4a9ac50a3d6a8c", func := "loop.example/robotcell/laws.FnClaimsValid", spec := "fnClaimsValid", unfollowed := true, recurses := true, apart := false }
def FnClaimsValidSaid : Prop := fnClaimsValidRow.holds Try.pinned (OpenSpec.ofChange fnClaimsValidSpec)

/-- ITS FALSE NEIGHBOUR: 'it returns false'. Refute it at one input. -/
def fnClaimsValidWrong : ChangeSpec := { name := "fnClaimsValid", fn := fun _ => fun
  | [d] => { results := [.lit (.bool false)], args := [d] }
  | _ => none }
def FnClaimsValidWrongFalsely : Prop := fnClaimsValidRow.holds Try.pinned (OpenSpec.ofChange fnClaimsValidWrong)

/-- 'laws.FnExactClaimsValid': WHATEVER THE INPUT: true; the input reads as it did. -/
def fnExactClaimsValidSpec : ChangeSpec := { name := "fnExactClaimsValid", fn := fun _ => fun
  | [d1, d2] => { results := [.lit (.bool true)], args := [d1, d2] }
  | _ => none }
def fnExactClaimsValidRow : OpenClaim := { program := "ytlahgikhndjfoaa", sum := "88281415c3803cb188e67e488e03c0c5e4978aca4d48cd13ca4a9ac50a3d6a8c", func := "loop.example/robotcell/laws.FnExactClaimsValid", spec := "fnExactClaimsValid", unfollowed := true, recurses := true, apart := false }
def FnExactClaimsValidSaid : Prop := fnExactClaimsValidRow.holds Try.pinned (OpenSpec.ofChange fnExactClaimsValidSpec)

/-- ITS FALSE NEIGHBOUR: 'it returns false'. Refute it at one input. -/
def fnExactClaimsValidWrong : ChangeSpec := { name := "fnExactClaimsValid", fn := fun _ => fun
  | [d1, d2] => { results := [.lit (.bool false)], args := [d1, d2] }
  | _ => none }
def FnExactClaimsValidWrongFalsely : Prop := fnExactClaimsValidRow.holds Try.pinned (OpenSpec.ofChange fnExactClaimsValidWrong)

/- THE SECOND FORM. 'bulk': how many values and letters a reading holds, each counted each time it is reached (what is shared counts as often as it is met; a slice's spare places count too). A statement '..UptoSaid' is the law's where the arguments, and the package variables that the reading takes, are together of bulk at most 1048576: NARROWER than '..Said'. Prove '..Said' where nothing that the law and all that it calls make is longer than what came in: it says more and counts as full. Else prove '..UptoSaid'. A law counts once. -/
mutual
def uptoBulk {H : Type} : DataW H → Nat
  | .lit (.string bytes) => bytes.length + 1
  | .lit _ => 1
  | .nil => 1
  | .ptr d => uptoBulk d + 1
  | .slice elems spare => uptoBulkAll elems + uptoBulkAll spare + 1
  | .agg parts => uptoBulkAll parts + 1
  | .iface _ d => uptoBulk d + 1
  | .map entries => uptoBulkEntries entries + 1
  | .held _ => 1
def uptoBulkAll {H : Type} : List (DataW H) → Nat
  | [] => 0
  | d :: r => uptoBulk d + uptoBulkAll r
def uptoBulkEntries {H : Type} : List (Lit × DataW H) → Nat
  | [] => 0
  | x :: r => uptoBulkEntry x + uptoBulkEntries r
def uptoBulkEntry {H : Type} : Lit × DataW H → Nat
  | (.string bytes, d) => bytes.length + uptoBulk d + 1
  | (_, d) => uptoBulk d + 1
 end
def uptoSmall : (H : Type) → List (DataW H) → Bool := fun _ ds => decide (uptoBulkAll ds ≤ 1048576)
def OpenSpec.upto (s : _root_.Go.ChangeSpec) : _root_.Go.OpenSpec := { _root_.Go.OpenSpec.ofChange s with cond := some uptoSmall }

/-- 'laws.FnStateSafe', WHERE WHAT IT READS IS OF BULK AT MOST 1048576: true; the input reads as it did. -/
def fnStateSafeUptoRow : OpenClaim := { program := "ytlahgikhndjfoaa", sum := "88281415c3803cb188e67e488e03c0c5e4978aca4d48cd13ca4a9ac50a3d6a8c", func := "loop.example/robotcell/laws.FnStateSafe", spec := "fnStateSafe", unfollowed := true, recurses := true, apart := false, narrowed := true }
def FnStateSafeUptoSaid : Prop := fnStateSafeUptoRow.holds Try.pinned (OpenSpec.upto fnStateSafeSpec)

/-- 'laws.FnFinishOrder', WHERE WHAT IT READS IS OF BULK AT MOST 1048576: true; the input reads as it did. -/
def fnFinishOrderUptoRow : OpenClaim := { program := "ytlahgikhndjfoaa", sum := "88281415c3803cb188e67e488e03c0c5e4978aca4d48cd13ca4a9ac50a3d6a8c", func := "loop.example/robotcell/laws.FnFinishOrder", spec := "fnFinishOrder", unfollowed := true, recurses := true, apart := false, narrowed := true }
def FnFinishOrderUptoSaid : Prop := fnFinishOrderUptoRow.holds Try.pinned (OpenSpec.upto fnFinishOrderSpec)

/-- 'laws.FnClaimsValid', WHERE WHAT IT READS IS OF BULK AT MOST 1048576: true; the input reads as it did. -/
def fnClaimsValidUptoRow : OpenClaim := { program := "ytlahgikhndjfoaa", sum := "88281415c3803cb188e67e488e03c0c5e4978aca4d48cd13ca4a9ac50a3d6a8c", func := "loop.example/robotcell/laws.FnClaimsValid", spec := "fnClaimsValid", unfollowed := true, recurses := true, apart := false, narrowed := true }
def FnClaimsValidUptoSaid : Prop := fnClaimsValidUptoRow.holds Try.pinned (OpenSpec.upto fnClaimsValidSpec)

/-- 'laws.FnExactClaimsValid', WHERE WHAT IT READS IS OF BULK AT MOST 1048576: true; the input reads as it did. -/
def fnExactClaimsValidUptoRow : OpenClaim := { program := "ytlahgikhndjfoaa", sum := "88281415c3803cb188e67e488e03c0c5e4978aca4d48cd13ca4a9ac50a3d6a8c", func := "loop.example/robotcell/laws.FnExactClaimsValid", spec := "fnExactClaimsValid", unfollowed := true, recurses := true, apart := false, narrowed := true }
def FnExactClaimsValidUptoSaid : Prop := fnExactClaimsValidUptoRow.holds Try.pinned (OpenSpec.upto fnExactClaimsValidSpec)

end Rows
end Go.Proofs.Ytlahgikhndjfoaa
