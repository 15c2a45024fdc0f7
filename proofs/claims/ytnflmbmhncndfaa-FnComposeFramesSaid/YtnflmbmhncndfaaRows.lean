/-
  No cell of these rows narrows 'for every input' (looked for: loops, veiled, ifaces, maps, wideKeys, modest, calm, conditions, laid).
  DERIVED. THE GIVEN ROWS OF THIS SEAT. 10 by the template 'for every input the law returns true; each argument reads behind the call as it read before'; 0 by the template 'total and deterministic' (their statements: YtnflmbmhncndfaaTotals.lean).
  GIVEN WITH THE SEED: the statements are not yours to turn. If you find one false, say at which input.
  Laid BY PROGRAM, IN A SANDBOX (cutbox-rows.mjs): the forced cells as the released guide's own fill.sh prints them over the translation c6ea8be470f4ba1b… (all of the seat's roots in one cut). By AI agents, Wed Nov 11 2026. No macro, syntax, notation, axiom, sorry.
-/
import Derived.Test.YtnflmbmhncndfaaChecked
import GoSem.Claim
import GoSem.ClaimJoined
import GoSem.ClaimMapViews
import Derived.JoinedTies
import Derived.KernelRfl
namespace Go.Proofs.Ytnflmbmhncndfaa
/- THE CELL 'sum', in the pinned program and in every row, IS THE sha256 OF THE DUMP (.gsa) THAT YtnflmbmhncndfaaProg.lean LOADS. Nothing in Lean hashes anything: it is a label: what it is worth is what the hold of that sum in a sandbox is worth. -/
noncomputable def Try.pinned : Pinned := { name := "ytnflmbmhncndfaa", sum := "c6ea8be470f4ba1b0ac5913b9be01711f96647c21c65fd8e8cd5b1af0ab1b6aa", checked := Try.checked }
namespace Rows
def none {H : Type} : Left H := { results := [], args := [] }

/-- 'laws.FnExactFrameValid': WHATEVER THE INPUT: true; the input reads as it did. -/
def fnExactFrameValidSpec : ChangeSpec := { name := "fnExactFrameValid", fn := fun _ => fun
  | [d] => { results := [.lit (.bool true)], args := [d] }
  | _ => none }
def fnExactFrameValidRow : OpenClaim := { program := "ytnflmbmhncndfaa", sum := "c6ea8be470f4ba1b0ac5913b9be01711f96647c21c65fd8e8cd5b1af0ab1b6aa", func := "loop.example/robotcell/laws.FnExactFrameValid", spec := "fnExactFrameValid", apart := false }
def FnExactFrameValidSaid : Prop := fnExactFrameValidRow.holds Try.pinned (OpenSpec.ofChange fnExactFrameValidSpec)

/-- ITS FALSE NEIGHBOUR: 'it returns false'. Refute it at one input. -/
def fnExactFrameValidWrong : ChangeSpec := { name := "fnExactFrameValid", fn := fun _ => fun
  | [d] => { results := [.lit (.bool false)], args := [d] }
  | _ => none }
def FnExactFrameValidWrongFalsely : Prop := fnExactFrameValidRow.holds Try.pinned (OpenSpec.ofChange fnExactFrameValidWrong)

/-- 'laws.FnFrameValid': WHATEVER THE INPUT: true; the input reads as it did. -/
def fnFrameValidSpec : ChangeSpec := { name := "fnFrameValid", fn := fun _ => fun
  | [d] => { results := [.lit (.bool true)], args := [d] }
  | _ => none }
def fnFrameValidRow : OpenClaim := { program := "ytnflmbmhncndfaa", sum := "c6ea8be470f4ba1b0ac5913b9be01711f96647c21c65fd8e8cd5b1af0ab1b6aa", func := "loop.example/robotcell/laws.FnFrameValid", spec := "fnFrameValid", apart := false }
def FnFrameValidSaid : Prop := fnFrameValidRow.holds Try.pinned (OpenSpec.ofChange fnFrameValidSpec)

/-- ITS FALSE NEIGHBOUR: 'it returns false'. Refute it at one input. -/
def fnFrameValidWrong : ChangeSpec := { name := "fnFrameValid", fn := fun _ => fun
  | [d] => { results := [.lit (.bool false)], args := [d] }
  | _ => none }
def FnFrameValidWrongFalsely : Prop := fnFrameValidRow.holds Try.pinned (OpenSpec.ofChange fnFrameValidWrong)

/-- 'laws.FnExactInvertFrame': WHATEVER THE INPUT: true; the input reads as it did. -/
def fnExactInvertFrameSpec : ChangeSpec := { name := "fnExactInvertFrame", fn := fun _ => fun
  | [d] => { results := [.lit (.bool true)], args := [d] }
  | _ => none }
def fnExactInvertFrameRow : OpenClaim := { program := "ytnflmbmhncndfaa", sum := "c6ea8be470f4ba1b0ac5913b9be01711f96647c21c65fd8e8cd5b1af0ab1b6aa", func := "loop.example/robotcell/laws.FnExactInvertFrame", spec := "fnExactInvertFrame", apart := false }
def FnExactInvertFrameSaid : Prop := fnExactInvertFrameRow.holds Try.pinned (OpenSpec.ofChange fnExactInvertFrameSpec)

/-- ITS FALSE NEIGHBOUR: 'it returns false'. Refute it at one input. -/
def fnExactInvertFrameWrong : ChangeSpec := { name := "fnExactInvertFrame", fn := fun _ => fun
  | [d] => { results := [.lit (.bool false)], args := [d] }
  | _ => none }
def FnExactInvertFrameWrongFalsely : Prop := fnExactInvertFrameRow.holds Try.pinned (OpenSpec.ofChange fnExactInvertFrameWrong)

/-- 'laws.FnExactComposeFrames': WHATEVER THE INPUT: true; the input reads as it did. -/
def fnExactComposeFramesSpec : ChangeSpec := { name := "fnExactComposeFrames", fn := fun _ => fun
  | [d1, d2] => { results := [.lit (.bool true)], args := [d1, d2] }
  | _ => none }
def fnExactComposeFramesRow : OpenClaim := { program := "ytnflmbmhncndfaa", sum := "c6ea8be470f4ba1b0ac5913b9be01711f96647c21c65fd8e8cd5b1af0ab1b6aa", func := "loop.example/robotcell/laws.FnExactComposeFrames", spec := "fnExactComposeFrames", apart := false }
def FnExactComposeFramesSaid : Prop := fnExactComposeFramesRow.holds Try.pinned (OpenSpec.ofChange fnExactComposeFramesSpec)

/-- ITS FALSE NEIGHBOUR: 'it returns false'. Refute it at one input. -/
def fnExactComposeFramesWrong : ChangeSpec := { name := "fnExactComposeFrames", fn := fun _ => fun
  | [d1, d2] => { results := [.lit (.bool false)], args := [d1, d2] }
  | _ => none }
def FnExactComposeFramesWrongFalsely : Prop := fnExactComposeFramesRow.holds Try.pinned (OpenSpec.ofChange fnExactComposeFramesWrong)

/-- 'laws.FnExactApplyFrame': WHATEVER THE INPUT: true; the input reads as it did. -/
def fnExactApplyFrameSpec : ChangeSpec := { name := "fnExactApplyFrame", fn := fun _ => fun
  | [d1, d2] => { results := [.lit (.bool true)], args := [d1, d2] }
  | _ => none }
def fnExactApplyFrameRow : OpenClaim := { program := "ytnflmbmhncndfaa", sum := "c6ea8be470f4ba1b0ac5913b9be01711f96647c21c65fd8e8cd5b1af0ab1b6aa", func := "loop.example/robotcell/laws.FnExactApplyFrame", spec := "fnExactApplyFrame", apart := false }
def FnExactApplyFrameSaid : Prop := fnExactApplyFrameRow.holds Try.pinned (OpenSpec.ofChange fnExactApplyFrameSpec)

/-- ITS FALSE NEIGHBOUR: 'it returns false'. Refute it at one input. -/
def fnExactApplyFrameWrong : ChangeSpec := { name := "fnExactApplyFrame", fn := fun _ => fun
  | [d1, d2] => { results := [.lit (.bool false)], args := [d1, d2] }
  | _ => none }
def FnExactApplyFrameWrongFalsely : Prop := fnExactApplyFrameRow.holds Try.pinned (OpenSpec.ofChange fnExactApplyFrameWrong)

/-- 'laws.FnExactRepeatFrame': WHATEVER THE INPUT: true; the input reads as it did. -/
def fnExactRepeatFrameSpec : ChangeSpec := { name := "fnExactRepeatFrame", fn := fun _ => fun
  | [d1, d2] => { results := [.lit (.bool true)], args := [d1, d2] }
  | _ => none }
def fnExactRepeatFrameRow : OpenClaim := { program := "ytnflmbmhncndfaa", sum := "c6ea8be470f4ba1b0ac5913b9be01711f96647c21c65fd8e8cd5b1af0ab1b6aa", func := "loop.example/robotcell/laws.FnExactRepeatFrame", spec := "fnExactRepeatFrame", apart := false }
def FnExactRepeatFrameSaid : Prop := fnExactRepeatFrameRow.holds Try.pinned (OpenSpec.ofChange fnExactRepeatFrameSpec)

/-- ITS FALSE NEIGHBOUR: 'it returns false'. Refute it at one input. -/
def fnExactRepeatFrameWrong : ChangeSpec := { name := "fnExactRepeatFrame", fn := fun _ => fun
  | [d1, d2] => { results := [.lit (.bool false)], args := [d1, d2] }
  | _ => none }
def FnExactRepeatFrameWrongFalsely : Prop := fnExactRepeatFrameRow.holds Try.pinned (OpenSpec.ofChange fnExactRepeatFrameWrong)

/-- 'laws.FnInvertFrame': WHATEVER THE INPUT: true; the input reads as it did. -/
def fnInvertFrameSpec : ChangeSpec := { name := "fnInvertFrame", fn := fun _ => fun
  | [d] => { results := [.lit (.bool true)], args := [d] }
  | _ => none }
def fnInvertFrameRow : OpenClaim := { program := "ytnflmbmhncndfaa", sum := "c6ea8be470f4ba1b0ac5913b9be01711f96647c21c65fd8e8cd5b1af0ab1b6aa", func := "loop.example/robotcell/laws.FnInvertFrame", spec := "fnInvertFrame", apart := false }
def FnInvertFrameSaid : Prop := fnInvertFrameRow.holds Try.pinned (OpenSpec.ofChange fnInvertFrameSpec)

/-- ITS FALSE NEIGHBOUR: 'it returns false'. Refute it at one input. -/
def fnInvertFrameWrong : ChangeSpec := { name := "fnInvertFrame", fn := fun _ => fun
  | [d] => { results := [.lit (.bool false)], args := [d] }
  | _ => none }
def FnInvertFrameWrongFalsely : Prop := fnInvertFrameRow.holds Try.pinned (OpenSpec.ofChange fnInvertFrameWrong)

/-- 'laws.FnApplyFrame': WHATEVER THE INPUT: true; the input reads as it did. -/
def fnApplyFrameSpec : ChangeSpec := { name := "fnApplyFrame", fn := fun _ => fun
  | [d] => { results := [.lit (.bool true)], args := [d] }
  | _ => none }
def fnApplyFrameRow : OpenClaim := { program := "ytnflmbmhncndfaa", sum := "c6ea8be470f4ba1b0ac5913b9be01711f96647c21c65fd8e8cd5b1af0ab1b6aa", func := "loop.example/robotcell/laws.FnApplyFrame", spec := "fnApplyFrame", apart := false }
def FnApplyFrameSaid : Prop := fnApplyFrameRow.holds Try.pinned (OpenSpec.ofChange fnApplyFrameSpec)

/-- ITS FALSE NEIGHBOUR: 'it returns false'. Refute it at one input. -/
def fnApplyFrameWrong : ChangeSpec := { name := "fnApplyFrame", fn := fun _ => fun
  | [d] => { results := [.lit (.bool false)], args := [d] }
  | _ => none }
def FnApplyFrameWrongFalsely : Prop := fnApplyFrameRow.holds Try.pinned (OpenSpec.ofChange fnApplyFrameWrong)

/-- 'laws.FnRepeatFrame': WHATEVER THE INPUT: true; the input reads as it did. -/
def fnRepeatFrameSpec : ChangeSpec := { name := "fnRepeatFrame", fn := fun _ => fun
  | [d] => { results := [.lit (.bool true)], args := [d] }
  | _ => none }
def fnRepeatFrameRow : OpenClaim := { program := "ytnflmbmhncndfaa", sum := "c6ea8be470f4ba1b0ac5913b9be01711f96647c21c65fd8e8cd5b1af0ab1b6aa", func := "loop.example/robotcell/laws.FnRepeatFrame", spec := "fnRepeatFrame", apart := false }
def FnRepeatFrameSaid : Prop := fnRepeatFrameRow.holds Try.pinned (OpenSpec.ofChange fnRepeatFrameSpec)

/-- ITS FALSE NEIGHBOUR: 'it returns false'. Refute it at one input. -/
def fnRepeatFrameWrong : ChangeSpec := { name := "fnRepeatFrame", fn := fun _ => fun
  | [d] => { results := [.lit (.bool false)], args := [d] }
  | _ => none }
def FnRepeatFrameWrongFalsely : Prop := fnRepeatFrameRow.holds Try.pinned (OpenSpec.ofChange fnRepeatFrameWrong)

/-- 'laws.FnComposeFrames': WHATEVER THE INPUT: true; the input reads as it did. -/
def fnComposeFramesSpec : ChangeSpec := { name := "fnComposeFrames", fn := fun _ => fun
  | [d1, d2] => { results := [.lit (.bool true)], args := [d1, d2] }
  | _ => none }
def fnComposeFramesRow : OpenClaim := { program := "ytnflmbmhncndfaa", sum := "c6ea8be470f4ba1b0ac5913b9be01711f96647c21c65fd8e8cd5b1af0ab1b6aa", func := "loop.example/robotcell/laws.FnComposeFrames", spec := "fnComposeFrames", apart := false }
def FnComposeFramesSaid : Prop := fnComposeFramesRow.holds Try.pinned (OpenSpec.ofChange fnComposeFramesSpec)

/-- ITS FALSE NEIGHBOUR: 'it returns false'. Refute it at one input. -/
def fnComposeFramesWrong : ChangeSpec := { name := "fnComposeFrames", fn := fun _ => fun
  | [d1, d2] => { results := [.lit (.bool false)], args := [d1, d2] }
  | _ => none }
def FnComposeFramesWrongFalsely : Prop := fnComposeFramesRow.holds Try.pinned (OpenSpec.ofChange fnComposeFramesWrong)

/- THE SECOND FORM. 'bulk': how many values and letters a reading holds, each counted each time it is reached (what is shared counts as often as it is met; a slice's spare places count too). A statement '..UptoSaid' is the law's where the arguments, and the package variables that the reading takes, are together of bulk at most 1048576: NARROWER than '..Said'. Prove '..Said' where nothing that the law and all that it calls make is longer than what came in: it says more and counts as full. Else prove '..UptoSaid'. A law counts once. -/
mutual
def uptoBulk {H : Type} : DataW H → Nat
  | .lit (.string bytes) => bytes.length + 1
  | .lit _ => 1
  | .nil => 1
  | .ptr d => uptoBulk d + 1
  | .slice elems spare => uptoBulkAll elems + uptoBulkAll spare + 1
  | .agg parts => uptoBulkAll parts + 1
  | .iface _ d => uptoBulk d + 1
  | .map entries => uptoBulkEntries entries + 1
  | .held _ => 1
def uptoBulkAll {H : Type} : List (DataW H) → Nat
  | [] => 0
  | d :: r => uptoBulk d + uptoBulkAll r
def uptoBulkEntries {H : Type} : List (Lit × DataW H) → Nat
  | [] => 0
  | x :: r => uptoBulkEntry x + uptoBulkEntries r
def uptoBulkEntry {H : Type} : Lit × DataW H → Nat
  | (.string bytes, d) => bytes.length + uptoBulk d + 1
  | (_, d) => uptoBulk d + 1
 end
def uptoSmall : (H : Type) → List (DataW H) → Bool := fun _ ds => decide (uptoBulkAll ds ≤ 1048576)
def OpenSpec.upto (s : _root_.Go.ChangeSpec) : _root_.Go.OpenSpec := { _root_.Go.OpenSpec.ofChange s with cond := some uptoSmall }

/-- 'laws.FnExactFrameValid', WHERE WHAT IT READS IS OF BULK AT MOST 1048576: true; the input reads as it did. -/
def fnExactFrameValidUptoRow : OpenClaim := { program := "ytnflmbmhncndfaa", sum := "c6ea8be470f4ba1b0ac5913b9be01711f96647c21c65fd8e8cd5b1af0ab1b6aa", func := "loop.example/robotcell/laws.FnExactFrameValid", spec := "fnExactFrameValid", apart := false, narrowed := true }
def FnExactFrameValidUptoSaid : Prop := fnExactFrameValidUptoRow.holds Try.pinned (OpenSpec.upto fnExactFrameValidSpec)

/-- 'laws.FnFrameValid', WHERE WHAT IT READS IS OF BULK AT MOST 1048576: true; the input reads as it did. -/
def fnFrameValidUptoRow : OpenClaim := { program := "ytnflmbmhncndfaa", sum := "c6ea8be470f4ba1b0ac5913b9be01711f96647c21c65fd8e8cd5b1af0ab1b6aa", func := "loop.example/robotcell/laws.FnFrameValid", spec := "fnFrameValid", apart := false, narrowed := true }
def FnFrameValidUptoSaid : Prop := fnFrameValidUptoRow.holds Try.pinned (OpenSpec.upto fnFrameValidSpec)

/-- 'laws.FnExactInvertFrame', WHERE WHAT IT READS IS OF BULK AT MOST 1048576: true; the input reads as it did. -/
def fnExactInvertFrameUptoRow : OpenClaim := { program := "ytnflmbmhncndfaa", sum := "c6ea8be470f4ba1b0ac5913b9be01711f96647c21c65fd8e8cd5b1af0ab1b6aa", func := "loop.example/robotcell/laws.FnExactInvertFrame", spec := "fnExactInvertFrame", apart := false, narrowed := true }
def FnExactInvertFrameUptoSaid : Prop := fnExactInvertFrameUptoRow.holds Try.pinned (OpenSpec.upto fnExactInvertFrameSpec)

/-- 'laws.FnExactComposeFrames', WHERE WHAT IT READS IS OF BULK AT MOST 1048576: true; the input reads as it did. -/
def fnExactComposeFramesUptoRow : OpenClaim := { program := "ytnflmbmhncndfaa", sum := "c6ea8be470f4ba1b0ac5913b9be01711f96647c21c65fd8e8cd5b1af0ab1b6aa", func := "loop.example/robotcell/laws.FnExactComposeFrames", spec := "fnExactComposeFrames", apart := false, narrowed := true }
def FnExactComposeFramesUptoSaid : Prop := fnExactComposeFramesUptoRow.holds Try.pinned (OpenSpec.upto fnExactComposeFramesSpec)

/-- 'laws.FnExactApplyFrame', WHERE WHAT IT READS IS OF BULK AT MOST 1048576: true; the input reads as it did. -/
def fnExactApplyFrameUptoRow : OpenClaim := { program := "ytnflmbmhncndfaa", sum := "c6ea8be470f4ba1b0ac5913b9be01711f96647c21c65fd8e8cd5b1af0ab1b6aa", func := "loop.example/robotcell/laws.FnExactApplyFrame", spec := "fnExactApplyFrame", apart := false, narrowed := true }
def FnExactApplyFrameUptoSaid : Prop := fnExactApplyFrameUptoRow.holds Try.pinned (OpenSpec.upto fnExactApplyFrameSpec)

/-- 'laws.FnExactRepeatFrame', WHERE WHAT IT READS IS OF BULK AT MOST 1048576: true; the input reads as it did. -/
def fnExactRepeatFrameUptoRow : OpenClaim := { program := "ytnflmbmhncndfaa", sum := "c6ea8be470f4ba1b0ac5913b9be01711f96647c21c65fd8e8cd5b1af0ab1b6aa", func := "loop.example/robotcell/laws.FnExactRepeatFrame", spec := "fnExactRepeatFrame", apart := false, narrowed := true }
def FnExactRepeatFrameUptoSaid : Prop := fnExactRepeatFrameUptoRow.holds Try.pinned (OpenSpec.upto fnExactRepeatFrameSpec)

/-- 'laws.FnInvertFrame', WHERE WHAT IT READS IS OF BULK AT MOST 1048576: true; the input reads as it did. -/
def fnInvertFrameUptoRow : OpenClaim := { program := "ytnflmbmhncndfaa", sum := "c6ea8be470f4ba1b0ac5913b9be01711f96647c21c65fd8e8cd5b1af0ab1b6aa", func := "loop.example/robotcell/laws.FnInvertFrame", spec := "fnInvertFrame", apart := false, narrowed := true }
def FnInvertFrameUptoSaid : Prop := fnInvertFrameUptoRow.holds Try.pinned (OpenSpec.upto fnInvertFrameSpec)

/-- 'laws.FnApplyFrame', WHERE WHAT IT READS IS OF BULK AT MOST 1048576: true; the input reads as it did. -/
def fnApplyFrameUptoRow : OpenClaim := { program := "ytnflmbmhncndfaa", sum := "c6ea8be470f4ba1b0ac5913b9be01711f96647c21c65fd8e8cd5b1af0ab1b6aa", func := "loop.example/robotcell/laws.FnApplyFrame", spec := "fnApplyFrame", apart := false, narrowed := true }
def FnApplyFrameUptoSaid : Prop := fnApplyFrameUptoRow.holds Try.pinned (OpenSpec.upto fnApplyFrameSpec)

/-- 'laws.FnRepeatFrame', WHERE WHAT IT READS IS OF BULK AT MOST 1048576: true; the input reads as it did. -/
def fnRepeatFrameUptoRow : OpenClaim := { program := "ytnflmbmhncndfaa", sum := "c6ea8be470f4ba1b0ac5913b9be01711f96647c21c65fd8e8cd5b1af0ab1b6aa", func := "loop.example/robotcell/laws.FnRepeatFrame", spec := "fnRepeatFrame", apart := false, narrowed := true }
def FnRepeatFrameUptoSaid : Prop := fnRepeatFrameUptoRow.holds Try.pinned (OpenSpec.upto fnRepeatFrameSpec)

/-- 'laws.FnComposeFrames', WHERE WHAT IT READS IS OF BULK AT MOST 1048576: true; the input reads as it did. -/
def fnComposeFramesUptoRow : OpenClaim := { program := "ytnflmbmhncndfaa", sum := "c6ea8be470f4ba1b0ac5913b9be01711f96647c21c65fd8e8cd5b1af0ab1b6aa", func := "loop.example/robotcell/laws.FnComposeFrames", spec := "fnComposeFrames", apart := false, narrowed := true }
def FnComposeFramesUptoSaid : Prop := fnComposeFramesUptoRow.holds Try.pinned (OpenSpec.upto fnComposeFramesSpec)

end Rows
end Go.Proofs.Ytnflmbmhncndfaa
