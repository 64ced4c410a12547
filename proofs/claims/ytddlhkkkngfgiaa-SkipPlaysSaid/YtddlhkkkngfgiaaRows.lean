/-
  No cell of these rows narrows 'for every input' (looked for: loops, veiled, ifaces, maps, wideKeys, modest, calm, conditions, laid).
  DERIVED. THE GIVEN ROWS OF THIS SEAT. 5 by the template 'for every input the law returns true; each argument reads behind the call as it read before'; 0 by the template 'total and deterministic' (their statements: YtddlhkkkngfgiaaTotals.lean).
  GIVEN WITH THE SEED: the statements are not yours to turn. If you find one false, say at which input.
  Laid BY PROGRAM, IN A SANDBOX (cutbox-rows.mjs): the forced cells as the released guide's own fill.sh prints them over the translation 089ded7f0c697cf4… (all of the seat's roots in one cut). By AI agents, Wed Nov 11 2026. No macro, syntax, notation, axiom, sorry.
-/
import Derived.Test.YtddlhkkkngfgiaaChecked
import GoSem.Claim
import GoSem.ClaimJoined
import GoSem.ClaimMapViews
import Derived.JoinedTies
import Derived.KernelRfl
namespace Go.Proofs.Ytddlhkkkngfgiaa
/- THE CELL 'sum', in the pinned program and in every row, IS THE sha256 OF THE DUMP (.gsa) THAT YtddlhkkkngfgiaaProg.lean LOADS. Nothing in Lean hashes anything: it is a label: what it is worth is what the hold of that sum in a sandbox is worth. -/
noncomputable def Try.pinned : Pinned := { name := "ytddlhkkkngfgiaa", sum := "089ded7f0c697cf496ec8d6f91a7a4c70f7f36ff9215638d079284cb75686f5d", checked := Try.checked }
namespace Rows
def none {H : Type} : Left H := { results := [], args := [] }

/-- 'debenturelaw07.SkipTurned': WHATEVER THE INPUT: true; the input reads as it did. -/
def skipTurnedSpec : ChangeSpec := { name := "skipTurned", fn := fun _ => fun
  | [d1, d2] => { results := [.lit (.bool true)], args := [d1, d2] }
  | _ => none }
def skipTurnedRow : OpenClaim := { program := "ytddlhkkkngfgiaa", sum := "089ded7f0c697cf496ec8d6f91a7a4c70f7f36ff9215638d079284cb75686f5d", func := "debenture/debenturelaw07.SkipTurned", spec := "skipTurned", apart := false }
def SkipTurnedSaid : Prop := skipTurnedRow.holds Try.pinned (OpenSpec.ofChange skipTurnedSpec)

/-- ITS FALSE NEIGHBOUR: 'it returns false'. Refute it at one input. -/
def skipTurnedWrong : ChangeSpec := { name := "skipTurned", fn := fun _ => fun
  | [d1, d2] => { results := [.lit (.bool false)], args := [d1, d2] }
  | _ => none }
def SkipTurnedWrongFalsely : Prop := skipTurnedRow.holds Try.pinned (OpenSpec.ofChange skipTurnedWrong)

/-- 'debenturelaw07.SkipNumbers': WHATEVER THE INPUT: true; the input reads as it did. -/
def skipNumbersSpec : ChangeSpec := { name := "skipNumbers", fn := fun _ => fun
  | [d1, d2] => { results := [.lit (.bool true)], args := [d1, d2] }
  | _ => none }
def skipNumbersRow : OpenClaim := { program := "ytddlhkkkngfgiaa", sum := "089ded7f0c697cf496ec8d6f91a7a4c70f7f36ff9215638d079284cb75686f5d", func := "debenture/debenturelaw07.SkipNumbers", spec := "skipNumbers", apart := false }
def SkipNumbersSaid : Prop := skipNumbersRow.holds Try.pinned (OpenSpec.ofChange skipNumbersSpec)

/-- ITS FALSE NEIGHBOUR: 'it returns false'. Refute it at one input. -/
def skipNumbersWrong : ChangeSpec := { name := "skipNumbers", fn := fun _ => fun
  | [d1, d2] => { results := [.lit (.bool false)], args := [d1, d2] }
  | _ => none }
def SkipNumbersWrongFalsely : Prop := skipNumbersRow.holds Try.pinned (OpenSpec.ofChange skipNumbersWrong)

/-- 'debenturelaw07.SkipWalks': WHATEVER THE INPUT: true; the input reads as it did. -/
def skipWalksSpec : ChangeSpec := { name := "skipWalks", fn := fun _ => fun
  | [d] => { results := [.lit (.bool true)], args := [d] }
  | _ => none }
def skipWalksRow : OpenClaim := { program := "ytddlhkkkngfgiaa", sum := "089ded7f0c697cf496ec8d6f91a7a4c70f7f36ff9215638d079284cb75686f5d", func := "debenture/debenturelaw07.SkipWalks", spec := "skipWalks", apart := false }
def SkipWalksSaid : Prop := skipWalksRow.holds Try.pinned (OpenSpec.ofChange skipWalksSpec)

/-- ITS FALSE NEIGHBOUR: 'it returns false'. Refute it at one input. -/
def skipWalksWrong : ChangeSpec := { name := "skipWalks", fn := fun _ => fun
  | [d] => { results := [.lit (.bool false)], args := [d] }
  | _ => none }
def SkipWalksWrongFalsely : Prop := skipWalksRow.holds Try.pinned (OpenSpec.ofChange skipWalksWrong)

/-- 'debenturelaw07.SkipPlays': WHATEVER THE INPUT: true; the input reads as it did. -/
def skipPlaysSpec : ChangeSpec := { name := "skipPlays", fn := fun _ => fun
  | [d1, d2] => { results := [.lit (.bool true)], args := [d1, d2] }
  | _ => none }
def skipPlaysRow : OpenClaim := { program := "ytddlhkkkngfgiaa", sum := "089ded7f0c697cf496ec8d6f91a7a4c70f7f36ff9215638d079284cb75686f5d", func := "debenture/debenturelaw07.SkipPlays", spec := "skipPlays", apart := false }
def SkipPlaysSaid : Prop := skipPlaysRow.holds Try.pinned (OpenSpec.ofChange skipPlaysSpec)

/-- ITS FALSE NEIGHBOUR: 'it returns false'. Refute it at one input. -/
def skipPlaysWrong : ChangeSpec := { name := "skipPlays", fn := fun _ => fun
  | [d1, d2] => { results := [.lit (.bool false)], args := [d1, d2] }
  | _ => none }
def SkipPlaysWrongFalsely : Prop := skipPlaysRow.holds Try.pinned (OpenSpec.ofChange skipPlaysWrong)

/-- 'debenturelaw07.SkipNone': WHATEVER THE INPUT: true; the input reads as it did. -/
def skipNoneSpec : ChangeSpec := { name := "skipNone", fn := fun _ => fun
  | [d1, d2] => { results := [.lit (.bool true)], args := [d1, d2] }
  | _ => none }
def skipNoneRow : OpenClaim := { program := "ytddlhkkkngfgiaa", sum := "089ded7f0c697cf496ec8d6f91a7a4c70f7f36ff9215638d079284cb75686f5d", func := "debenture/debenturelaw07.SkipNone", spec := "skipNone", apart := false }
def SkipNoneSaid : Prop := skipNoneRow.holds Try.pinned (OpenSpec.ofChange skipNoneSpec)

/-- ITS FALSE NEIGHBOUR: 'it returns false'. Refute it at one input. -/
def skipNoneWrong : ChangeSpec := { name := "skipNone", fn := fun _ => fun
  | [d1, d2] => { results := [.lit (.bool false)], args := [d1, d2] }
  | _ => none }
def SkipNoneWrongFalsely : Prop := skipNoneRow.holds Try.pinned (OpenSpec.ofChange skipNoneWrong)

/- THE SECOND FORM. 'bulk': how many values and letters a reading holds, each counted each time it is reached (what is shared counts as often as it is met; a slice's spare places count too). A statement '..UptoSaid' is the law's where the arguments, and the package variables that the reading takes, are together of bulk at most 1048576: NARROWER than '..Said'. Prove '..Said' where nothing that the law and all that it calls make is longer than what came in: it says more and counts as full. Else prove '..UptoSaid'. A law counts once. -/
mutual
def uptoBulk {H : Type} : DataW H → Nat
  | .lit (.string bytes) => bytes.length + 1
  | .lit _ => 1
  | .nil => 1
  | .ptr d => uptoBulk d + 1
  | .slice elems spare => uptoBulkAll elems + uptoBulkAll spare + 1
  | .agg parts => uptoBulkAll parts + 1
  | .iface _ d => uptoBulk d + 1
  | .map entries => uptoBulkEntries entries + 1
  | .held _ => 1
def uptoBulkAll {H : Type} : List (DataW H) → Nat
  | [] => 0
  | d :: r => uptoBulk d + uptoBulkAll r
def uptoBulkEntries {H : Type} : List (Lit × DataW H) → Nat
  | [] => 0
  | x :: r => uptoBulkEntry x + uptoBulkEntries r
def uptoBulkEntry {H : Type} : Lit × DataW H → Nat
  | (.string bytes, d) => bytes.length + uptoBulk d + 1
  | (_, d) => uptoBulk d + 1
 end
def uptoSmall : (H : Type) → List (DataW H) → Bool := fun _ ds => decide (uptoBulkAll ds ≤ 1048576)
def OpenSpec.upto (s : _root_.Go.ChangeSpec) : _root_.Go.OpenSpec := { _root_.Go.OpenSpec.ofChange s with cond := some uptoSmall }

/-- 'debenturelaw07.SkipTurned', WHERE WHAT IT READS IS OF BULK AT MOST 1048576: true; the input reads as it did. -/
def skipTurnedUptoRow : OpenClaim := { program := "ytddlhkkkngfgiaa", sum := "089ded7f0c697cf496ec8d6f91a7a4c70f7f36ff9215638d079284cb75686f5d", func := "debenture/debenturelaw07.SkipTurned", spec := "skipTurned", apart := false, narrowed := true }
def SkipTurnedUptoSaid : Prop := skipTurnedUptoRow.holds Try.pinned (OpenSpec.upto skipTurnedSpec)

/-- 'debenturelaw07.SkipNumbers', WHERE WHAT IT READS IS OF BULK AT MOST 1048576: true; the input reads as it did. -/
def skipNumbersUptoRow : OpenClaim := { program := "ytddlhkkkngfgiaa", sum := "089ded7f0c697cf496ec8d6f91a7a4c70f7f36ff9215638d079284cb75686f5d", func := "debenture/debenturelaw07.SkipNumbers", spec := "skipNumbers", apart := false, narrowed := true }
def SkipNumbersUptoSaid : Prop := skipNumbersUptoRow.holds Try.pinned (OpenSpec.upto skipNumbersSpec)

/-- 'debenturelaw07.SkipWalks', WHERE WHAT IT READS IS OF BULK AT MOST 1048576: true; the input reads as it did. -/
def skipWalksUptoRow : OpenClaim := { program := "ytddlhkkkngfgiaa", sum := "089ded7f0c697cf496ec8d6f91a7a4c70f7f36ff9215638d079284cb75686f5d", func := "debenture/debenturelaw07.SkipWalks", spec := "skipWalks", apart := false, narrowed := true }
def SkipWalksUptoSaid : Prop := skipWalksUptoRow.holds Try.pinned (OpenSpec.upto skipWalksSpec)

/-- 'debenturelaw07.SkipPlays', WHERE WHAT IT READS IS OF BULK AT MOST 1048576: true; the input reads as it did. -/
def skipPlaysUptoRow : OpenClaim := { program := "ytddlhkkkngfgiaa", sum := "089ded7f0c697cf496ec8d6f91a7a4c70f7f36ff9215638d079284cb75686f5d", func := "debenture/debenturelaw07.SkipPlays", spec := "skipPlays", apart := false, narrowed := true }
def SkipPlaysUptoSaid : Prop := skipPlaysUptoRow.holds Try.pinned (OpenSpec.upto skipPlaysSpec)

/-- 'debenturelaw07.SkipNone', WHERE WHAT IT READS IS OF BULK AT MOST 1048576: true; the input reads as it did. -/
def skipNoneUptoRow : OpenClaim := { program := "ytddlhkkkngfgiaa", sum := "089ded7f0c697cf496ec8d6f91a7a4c70f7f36ff9215638d079284cb75686f5d", func := "debenture/debenturelaw07.SkipNone", spec := "skipNone", apart := false, narrowed := true }
def SkipNoneUptoSaid : Prop := skipNoneUptoRow.holds Try.pinned (OpenSpec.upto skipNoneSpec)

end Rows
end Go.Proofs.Ytddlhkkkngfgiaa
