/-
  DERIVED. GIVEN WITH THE SEED: THE CARDS: each row of YtdbfaknpfepnfaaGreatDoorRows.lean that lists a variable, with what it lists TIED to the program's text (the seventh form; the later family's looks); each row that meets fmt, with fmt's text TOLD by the authors' own Lean function (tested against real Go, not proved from fmt's source: count such statements apart). THE CARD IS WHAT COUNTS. Prove the row's statement (the work); the ties are given (YtdbfaknpfepnfaaGreatDoorTie.lean); close each card by the builder's one call (the guide's Derived/Test/ToyasCard.lean, 'card_holds'). Laid BY PROGRAM, IN A SANDBOX (cutbox-door.mjs). By AI agents, Wed Nov 11 2026. No macro, syntax, notation, axiom, sorry.
-/
import Derived.Test.YtdbfaknpfepnfaaGreatDoorRows
import GoSem.ClaimSeven
namespace Go.Proofs.YtdbfaknpfepnfaaGreatDoor
namespace Rows

/-- THE TIED CARD OF 'debenturelaw14.CursorKeys'. -/
def cursorKeysCard : Claim7 := { stood := { row := cursorKeysRow, standIns := [], harness := (true, "4012d286a7610c4ca8db12ea65e14fe5b53102366f96c3a0e99c840cf4980597"), looks := false }, kinds := [], alts := [], laidByText := true, laidKinds := [.data], laidTests := true, laidLooks := .later }
def CursorKeysCardSaid : Prop := Claim7.holds Tryz.pinned (.plain (OpenSpec.ofChange cursorKeysSpec)) cursorKeysCard

/-- THE TIED CARD OF 'debenturelaw14.CursorViews'. -/
def cursorViewsCard : Claim7 := { stood := { row := cursorViewsRow, standIns := [], harness := (true, "4012d286a7610c4ca8db12ea65e14fe5b53102366f96c3a0e99c840cf4980597"), looks := false }, kinds := [], alts := [], laidByText := true, laidKinds := [.data], laidTests := true, laidLooks := .later }
def CursorViewsCardSaid : Prop := Claim7.holds Tryz.pinned (.plain (OpenSpec.ofChange cursorViewsSpec)) cursorViewsCard

/-- THE TIED CARD OF 'debenturelaw11.TableBuilds'. -/
def tableBuildsCard : Claim7 := { stood := { row := tableBuildsRow, standIns := [], harness := (true, "4012d286a7610c4ca8db12ea65e14fe5b53102366f96c3a0e99c840cf4980597"), looks := false }, kinds := [], alts := [], laidByText := true, laidKinds := [.data], laidTests := true, laidLooks := .later }
def TableBuildsCardSaid : Prop := Claim7.holds Tryz.pinned (.plain (OpenSpec.ofChange tableBuildsSpec)) tableBuildsCard

/-- THE TIED CARD OF 'debenturelaw11.TableGets'. -/
def tableGetsCard : Claim7 := { stood := { row := tableGetsRow, standIns := [], harness := (true, "4012d286a7610c4ca8db12ea65e14fe5b53102366f96c3a0e99c840cf4980597"), looks := false }, kinds := [], alts := [], laidByText := true, laidKinds := [.data], laidTests := true, laidLooks := .later }
def TableGetsCardSaid : Prop := Claim7.holds Tryz.pinned (.plain (OpenSpec.ofChange tableGetsSpec)) tableGetsCard

/-- THE TIED CARD OF 'debenturelaw14.CursorMerges'. -/
def cursorMergesCard : Claim7 := { stood := { row := cursorMergesRow, standIns := [], harness := (true, "4012d286a7610c4ca8db12ea65e14fe5b53102366f96c3a0e99c840cf4980597"), looks := false }, kinds := [], alts := [], laidByText := true, laidKinds := [.data], laidTests := true, laidLooks := .later }
def CursorMergesCardSaid : Prop := Claim7.holds Tryz.pinned (.plain (OpenSpec.ofChange cursorMergesSpec)) cursorMergesCard

/-- THE TIED CARD OF 'debenturelaw11.TableBack'. -/
def tableBackCard : Claim7 := { stood := { row := tableBackRow, standIns := [], harness := (true, "4012d286a7610c4ca8db12ea65e14fe5b53102366f96c3a0e99c840cf4980597"), looks := false }, kinds := [], alts := [], laidByText := true, laidKinds := [.data], laidTests := true, laidLooks := .later }
def TableBackCardSaid : Prop := Claim7.holds Tryz.pinned (.plain (OpenSpec.ofChange tableBackSpec)) tableBackCard

/-- THE TIED CARD OF 'debenturelaw11.TableNone'. -/
def tableNoneCard : Claim7 := { stood := { row := tableNoneRow, standIns := [], harness := (true, "4012d286a7610c4ca8db12ea65e14fe5b53102366f96c3a0e99c840cf4980597"), looks := false }, kinds := [], alts := [], laidByText := true, laidKinds := [.data], laidTests := true, laidLooks := .later }
def TableNoneCardSaid : Prop := Claim7.holds Tryz.pinned (.plain (OpenSpec.ofChange tableNoneSpec)) tableNoneCard

/-- THE SECOND FORM's CARD OF 'debenturelaw14.CursorKeys'. -/
def cursorKeysUptoCard : Claim7 := { stood := { row := cursorKeysUptoRow, standIns := [], harness := (true, "4012d286a7610c4ca8db12ea65e14fe5b53102366f96c3a0e99c840cf4980597"), looks := false }, kinds := [], alts := [], laidByText := true, laidKinds := [.data], laidTests := true, laidLooks := .later }
def CursorKeysUptoCardSaid : Prop := Claim7.holds Tryz.pinned (.plain (OpenSpec.upto cursorKeysSpec)) cursorKeysUptoCard

/-- THE SECOND FORM's CARD OF 'debenturelaw14.CursorViews'. -/
def cursorViewsUptoCard : Claim7 := { stood := { row := cursorViewsUptoRow, standIns := [], harness := (true, "4012d286a7610c4ca8db12ea65e14fe5b53102366f96c3a0e99c840cf4980597"), looks := false }, kinds := [], alts := [], laidByText := true, laidKinds := [.data], laidTests := true, laidLooks := .later }
def CursorViewsUptoCardSaid : Prop := Claim7.holds Tryz.pinned (.plain (OpenSpec.upto cursorViewsSpec)) cursorViewsUptoCard

/-- THE SECOND FORM's CARD OF 'debenturelaw11.TableBuilds'. -/
def tableBuildsUptoCard : Claim7 := { stood := { row := tableBuildsUptoRow, standIns := [], harness := (true, "4012d286a7610c4ca8db12ea65e14fe5b53102366f96c3a0e99c840cf4980597"), looks := false }, kinds := [], alts := [], laidByText := true, laidKinds := [.data], laidTests := true, laidLooks := .later }
def TableBuildsUptoCardSaid : Prop := Claim7.holds Tryz.pinned (.plain (OpenSpec.upto tableBuildsSpec)) tableBuildsUptoCard

/-- THE SECOND FORM's CARD OF 'debenturelaw11.TableGets'. -/
def tableGetsUptoCard : Claim7 := { stood := { row := tableGetsUptoRow, standIns := [], harness := (true, "4012d286a7610c4ca8db12ea65e14fe5b53102366f96c3a0e99c840cf4980597"), looks := false }, kinds := [], alts := [], laidByText := true, laidKinds := [.data], laidTests := true, laidLooks := .later }
def TableGetsUptoCardSaid : Prop := Claim7.holds Tryz.pinned (.plain (OpenSpec.upto tableGetsSpec)) tableGetsUptoCard

/-- THE SECOND FORM's CARD OF 'debenturelaw14.CursorMerges'. -/
def cursorMergesUptoCard : Claim7 := { stood := { row := cursorMergesUptoRow, standIns := [], harness := (true, "4012d286a7610c4ca8db12ea65e14fe5b53102366f96c3a0e99c840cf4980597"), looks := false }, kinds := [], alts := [], laidByText := true, laidKinds := [.data], laidTests := true, laidLooks := .later }
def CursorMergesUptoCardSaid : Prop := Claim7.holds Tryz.pinned (.plain (OpenSpec.upto cursorMergesSpec)) cursorMergesUptoCard

/-- THE SECOND FORM's CARD OF 'debenturelaw11.TableBack'. -/
def tableBackUptoCard : Claim7 := { stood := { row := tableBackUptoRow, standIns := [], harness := (true, "4012d286a7610c4ca8db12ea65e14fe5b53102366f96c3a0e99c840cf4980597"), looks := false }, kinds := [], alts := [], laidByText := true, laidKinds := [.data], laidTests := true, laidLooks := .later }
def TableBackUptoCardSaid : Prop := Claim7.holds Tryz.pinned (.plain (OpenSpec.upto tableBackSpec)) tableBackUptoCard

/-- THE SECOND FORM's CARD OF 'debenturelaw11.TableNone'. -/
def tableNoneUptoCard : Claim7 := { stood := { row := tableNoneUptoRow, standIns := [], harness := (true, "4012d286a7610c4ca8db12ea65e14fe5b53102366f96c3a0e99c840cf4980597"), looks := false }, kinds := [], alts := [], laidByText := true, laidKinds := [.data], laidTests := true, laidLooks := .later }
def TableNoneUptoCardSaid : Prop := Claim7.holds Tryz.pinned (.plain (OpenSpec.upto tableNoneSpec)) tableNoneUptoCard
end Rows
end Go.Proofs.YtdbfaknpfepnfaaGreatDoor
