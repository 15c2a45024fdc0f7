/-
  DERIVED. GIVEN WITH THE SEED: THE CARDS: each row of YtnanipehcikcjaaDoorRows.lean that lists a variable, with what it lists TIED to the program's text (the seventh form; the later family's looks); each row that meets fmt, with fmt's text TOLD by the authors' own Lean function (tested against real Go, not proved from fmt's source: count such statements apart). THE CARD IS WHAT COUNTS. Prove the row's statement (the work); the ties are given (YtnanipehcikcjaaDoorTie.lean); close each card by the builder's one call (the guide's Derived/Test/ToyasCard.lean, 'card_holds'). Laid BY PROGRAM, IN A SANDBOX (cutbox-door.mjs). By AI agents, Wed Nov 11 2026. No macro, syntax, notation, axiom, sorry.
-/
import Derived.Test.YtnanipehcikcjaaDoorRows
import GoSem.ClaimSeven
namespace Go.Proofs.YtnanipehcikcjaaDoor
namespace Rows

/-- THE TIED CARD OF 'laws.FnRotateFrame'. -/
def fnRotateFrameCard : Claim7 := { stood := { row := fnRotateFrameRow, standIns := [], harness := (true, "46f6a8ad7dcb594639f0b605c189114530f3c04b3dded1f5845de3ebc621ba68"), looks := false }, kinds := [], alts := [], laidByText := true, laidKinds := [.data, .data, .data], laidTests := true, laidLooks := .later }
def FnRotateFrameCardSaid : Prop := Claim7.holds Tryd.pinned (.plain (OpenSpec.ofChange fnRotateFrameSpec)) fnRotateFrameCard

/-- THE SECOND FORM's CARD OF 'laws.FnRotateFrame'. -/
def fnRotateFrameUptoCard : Claim7 := { stood := { row := fnRotateFrameUptoRow, standIns := [], harness := (true, "46f6a8ad7dcb594639f0b605c189114530f3c04b3dded1f5845de3ebc621ba68"), looks := false }, kinds := [], alts := [], laidByText := true, laidKinds := [.data, .data, .data], laidTests := true, laidLooks := .later }
def FnRotateFrameUptoCardSaid : Prop := Claim7.holds Tryd.pinned (.plain (OpenSpec.upto fnRotateFrameSpec)) fnRotateFrameUptoCard
end Rows
end Go.Proofs.YtnanipehcikcjaaDoor
