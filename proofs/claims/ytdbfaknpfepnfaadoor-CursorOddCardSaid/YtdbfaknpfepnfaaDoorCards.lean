/-
  DERIVED. GIVEN WITH THE SEED: THE CARDS: each row of YtdbfaknpfepnfaaDoorRows.lean that lists a variable, with what it lists TIED to the program's text (the seventh form; the later family's looks); each row that meets fmt, with fmt's text TOLD by the authors' own Lean function (tested against real Go, not proved from fmt's source: count such statements apart). THE CARD IS WHAT COUNTS. Prove the row's statement (the work); the ties are given (YtdbfaknpfepnfaaDoorTie.lean); close each card by the builder's one call (the guide's Derived/Test/ToyasCard.lean, 'card_holds'). Laid BY PROGRAM, IN A SANDBOX (cutbox-door.mjs). By AI agents, Wed Nov 11 2026. No macro, syntax, notation, axiom, sorry.
-/
import Derived.Test.YtdbfaknpfepnfaaDoorRows
import GoSem.ClaimSeven
namespace Go.Proofs.YtdbfaknpfepnfaaDoor
namespace Rows

/-- THE TIED CARD OF 'debenturelaw14.CursorOdd'. -/
def cursorOddCard : Claim7 := { stood := { row := cursorOddRow, standIns := [], harness := (true, "a0e5cb2b1446d17f3b8135cf6615f51c43050ab1f3d397ba04f50adf58518c95"), looks := false }, kinds := [], alts := [], laidByText := true, laidKinds := [.data], laidTests := true, laidLooks := .later }
def CursorOddCardSaid : Prop := Claim7.holds Tryd.pinned (.plain (OpenSpec.ofChange cursorOddSpec)) cursorOddCard

/-- THE TIED CARD OF 'debenturelaw14.CursorNone'. -/
def cursorNoneCard : Claim7 := { stood := { row := cursorNoneRow, standIns := [], harness := (true, "a0e5cb2b1446d17f3b8135cf6615f51c43050ab1f3d397ba04f50adf58518c95"), looks := false }, kinds := [], alts := [], laidByText := true, laidKinds := [.data], laidTests := true, laidLooks := .later }
def CursorNoneCardSaid : Prop := Claim7.holds Tryd.pinned (.plain (OpenSpec.ofChange cursorNoneSpec)) cursorNoneCard

/-- THE SECOND FORM's CARD OF 'debenturelaw14.CursorOdd'. -/
def cursorOddUptoCard : Claim7 := { stood := { row := cursorOddUptoRow, standIns := [], harness := (true, "a0e5cb2b1446d17f3b8135cf6615f51c43050ab1f3d397ba04f50adf58518c95"), looks := false }, kinds := [], alts := [], laidByText := true, laidKinds := [.data], laidTests := true, laidLooks := .later }
def CursorOddUptoCardSaid : Prop := Claim7.holds Tryd.pinned (.plain (OpenSpec.upto cursorOddSpec)) cursorOddUptoCard

/-- THE SECOND FORM's CARD OF 'debenturelaw14.CursorNone'. -/
def cursorNoneUptoCard : Claim7 := { stood := { row := cursorNoneUptoRow, standIns := [], harness := (true, "a0e5cb2b1446d17f3b8135cf6615f51c43050ab1f3d397ba04f50adf58518c95"), looks := false }, kinds := [], alts := [], laidByText := true, laidKinds := [.data], laidTests := true, laidLooks := .later }
def CursorNoneUptoCardSaid : Prop := Claim7.holds Tryd.pinned (.plain (OpenSpec.upto cursorNoneSpec)) cursorNoneUptoCard
end Rows
end Go.Proofs.YtdbfaknpfepnfaaDoor
