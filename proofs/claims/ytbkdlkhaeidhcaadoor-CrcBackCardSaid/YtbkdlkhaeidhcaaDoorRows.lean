/-
  NARROWER THAN 'FOR EVERY INPUT', by the rows' own cells (each row's printed sentence says how): BloomPlaces: laid · BloomMakes: laid · BloomHas: laid · BloomKeeps: laid · CrcSums: laid · CrcFrames: laid · CrcTurned: laid · CrcPatterns: laid · CrcPieces: laid · CrcOpens: laid · CrcBack: laid.
  DERIVED. THE GIVEN ROWS OF THIS SEAT. 11 by the template 'for every input the law returns true; each argument reads behind the call as it read before'; 0 by the template 'total and deterministic' (their statements: YtbkdlkhaeidhcaaDoorTotals.lean).
  GIVEN WITH THE SEED: the statements are not yours to turn. If you find one false, say at which input.
  Laid BY PROGRAM, IN A SANDBOX (cutbox-rows.mjs): the forced cells as the released guide's own fill.sh prints them over the translation 32a9b4fc084d690b… (all of the seat's roots in one cut). By AI agents, Wed Nov 11 2026. No macro, syntax, notation, axiom, sorry.
-/
import Derived.Test.YtbkdlkhaeidhcaaDoorChecked
import GoSem.Claim
import GoSem.ClaimJoined
import GoSem.ClaimMapViews
import Derived.JoinedTies
import Derived.KernelRfl
namespace Go.Proofs.YtbkdlkhaeidhcaaDoor
/- THE CELL 'sum', in the pinned program and in every row, IS THE sha256 OF THE DUMP (.gsa) THAT YtbkdlkhaeidhcaaDoorProg.lean LOADS. Nothing in Lean hashes anything: it is a label: what it is worth is what the hold of that sum in a sandbox is worth. -/
noncomputable def Tryd.pinned : Pinned := { name := "ytbkdlkhaeidhcaadoor", sum := "32a9b4fc084d690bc7c449be92d4714a053b1c8d4ce221dc4f13a54acb9d15cf", checked := Tryd.checked }
namespace Rows
def none {H : Type} : Left H := { results := [], args := [] }

/- WHAT THE LISTED PACKAGE-LEVEL VARIABLES READ AS WHEN THE CALL BEGINS. Each datum BY PROGRAM (the guide's laid-datum.mjs) off the statement by which the dump's own 'gosem.cut.vars' lays the variable. In a bare row this is a premise. The card (YtbkdlkhaeidhcaaDoorCards.lean) ties it to the program's text. -/
def laid_debenture_crc_nibbles {H : Type} : DataW H := .agg [.lit (.int .u32 0), .lit (.int .u32 274646895), .lit (.int .u32 549293790), .lit (.int .u32 820201905), .lit (.int .u32 1098587580), .lit (.int .u32 1361435347), .lit (.int .u32 1640403810), .lit (.int .u32 1905808397), .lit (.int .u32 2197175160), .lit (.int .u32 2460548119), .lit (.int .u32 2722870694), .lit (.int .u32 2987750089), .lit (.int .u32 3280807620), .lit (.int .u32 3553878443), .lit (.int .u32 3811616794), .lit (.int .u32 4084100981)]

/-- 'debenturelaw08.BloomPlaces': WHATEVER THE INPUT: true; the input reads as it did. -/
def bloomPlacesSpec : ChangeSpec := { name := "bloomPlaces", fn := fun _ => fun
  | [d1, d2, d3] => { results := [.lit (.bool true)], args := [d1, d2, d3] }
  | _ => none }
def bloomPlacesRow : OpenClaim := { program := "ytbkdlkhaeidhcaadoor", sum := "32a9b4fc084d690bc7c449be92d4714a053b1c8d4ce221dc4f13a54acb9d15cf", func := "debenture/debenturelaw08.BloomPlaces", spec := "bloomPlaces", named := ["debenture/crc.nibbles"], apart := false, laid := [("debenture/crc.nibbles", laid_debenture_crc_nibbles)] }
def BloomPlacesSaid : Prop := bloomPlacesRow.holds Tryd.pinned (OpenSpec.ofChange bloomPlacesSpec)

/-- ITS FALSE NEIGHBOUR: 'it returns false'. Refute it at one input. -/
def bloomPlacesWrong : ChangeSpec := { name := "bloomPlaces", fn := fun _ => fun
  | [d1, d2, d3] => { results := [.lit (.bool false)], args := [d1, d2, d3] }
  | _ => none }
def BloomPlacesWrongFalsely : Prop := bloomPlacesRow.holds Tryd.pinned (OpenSpec.ofChange bloomPlacesWrong)

/-- 'debenturelaw08.BloomMakes': WHATEVER THE INPUT: true; the input reads as it did. -/
def bloomMakesSpec : ChangeSpec := { name := "bloomMakes", fn := fun _ => fun
  | [d] => { results := [.lit (.bool true)], args := [d] }
  | _ => none }
def bloomMakesRow : OpenClaim := { program := "ytbkdlkhaeidhcaadoor", sum := "32a9b4fc084d690bc7c449be92d4714a053b1c8d4ce221dc4f13a54acb9d15cf", func := "debenture/debenturelaw08.BloomMakes", spec := "bloomMakes", named := ["debenture/crc.nibbles"], apart := false, laid := [("debenture/crc.nibbles", laid_debenture_crc_nibbles)] }
def BloomMakesSaid : Prop := bloomMakesRow.holds Tryd.pinned (OpenSpec.ofChange bloomMakesSpec)

/-- ITS FALSE NEIGHBOUR: 'it returns false'. Refute it at one input. -/
def bloomMakesWrong : ChangeSpec := { name := "bloomMakes", fn := fun _ => fun
  | [d] => { results := [.lit (.bool false)], args := [d] }
  | _ => none }
def BloomMakesWrongFalsely : Prop := bloomMakesRow.holds Tryd.pinned (OpenSpec.ofChange bloomMakesWrong)

/-- 'debenturelaw08.BloomHas': WHATEVER THE INPUT: true; the input reads as it did. -/
def bloomHasSpec : ChangeSpec := { name := "bloomHas", fn := fun _ => fun
  | [d1, d2] => { results := [.lit (.bool true)], args := [d1, d2] }
  | _ => none }
def bloomHasRow : OpenClaim := { program := "ytbkdlkhaeidhcaadoor", sum := "32a9b4fc084d690bc7c449be92d4714a053b1c8d4ce221dc4f13a54acb9d15cf", func := "debenture/debenturelaw08.BloomHas", spec := "bloomHas", named := ["debenture/crc.nibbles"], apart := false, laid := [("debenture/crc.nibbles", laid_debenture_crc_nibbles)] }
def BloomHasSaid : Prop := bloomHasRow.holds Tryd.pinned (OpenSpec.ofChange bloomHasSpec)

/-- ITS FALSE NEIGHBOUR: 'it returns false'. Refute it at one input. -/
def bloomHasWrong : ChangeSpec := { name := "bloomHas", fn := fun _ => fun
  | [d1, d2] => { results := [.lit (.bool false)], args := [d1, d2] }
  | _ => none }
def BloomHasWrongFalsely : Prop := bloomHasRow.holds Tryd.pinned (OpenSpec.ofChange bloomHasWrong)

/-- 'debenturelaw08.BloomKeeps': WHATEVER THE INPUT: true; the input reads as it did. -/
def bloomKeepsSpec : ChangeSpec := { name := "bloomKeeps", fn := fun _ => fun
  | [d1, d2] => { results := [.lit (.bool true)], args := [d1, d2] }
  | _ => none }
def bloomKeepsRow : OpenClaim := { program := "ytbkdlkhaeidhcaadoor", sum := "32a9b4fc084d690bc7c449be92d4714a053b1c8d4ce221dc4f13a54acb9d15cf", func := "debenture/debenturelaw08.BloomKeeps", spec := "bloomKeeps", named := ["debenture/crc.nibbles"], apart := false, laid := [("debenture/crc.nibbles", laid_debenture_crc_nibbles)] }
def BloomKeepsSaid : Prop := bloomKeepsRow.holds Tryd.pinned (OpenSpec.ofChange bloomKeepsSpec)

/-- ITS FALSE NEIGHBOUR: 'it returns false'. Refute it at one input. -/
def bloomKeepsWrong : ChangeSpec := { name := "bloomKeeps", fn := fun _ => fun
  | [d1, d2] => { results := [.lit (.bool false)], args := [d1, d2] }
  | _ => none }
def BloomKeepsWrongFalsely : Prop := bloomKeepsRow.holds Tryd.pinned (OpenSpec.ofChange bloomKeepsWrong)

/-- 'debenturelaw04.CrcSums': WHATEVER THE INPUT: true; the input reads as it did. -/
def crcSumsSpec : ChangeSpec := { name := "crcSums", fn := fun _ => fun
  | [d1, d2] => { results := [.lit (.bool true)], args := [d1, d2] }
  | _ => none }
def crcSumsRow : OpenClaim := { program := "ytbkdlkhaeidhcaadoor", sum := "32a9b4fc084d690bc7c449be92d4714a053b1c8d4ce221dc4f13a54acb9d15cf", func := "debenture/debenturelaw04.CrcSums", spec := "crcSums", named := ["debenture/crc.nibbles"], apart := false, laid := [("debenture/crc.nibbles", laid_debenture_crc_nibbles)] }
def CrcSumsSaid : Prop := crcSumsRow.holds Tryd.pinned (OpenSpec.ofChange crcSumsSpec)

/-- ITS FALSE NEIGHBOUR: 'it returns false'. Refute it at one input. -/
def crcSumsWrong : ChangeSpec := { name := "crcSums", fn := fun _ => fun
  | [d1, d2] => { results := [.lit (.bool false)], args := [d1, d2] }
  | _ => none }
def CrcSumsWrongFalsely : Prop := crcSumsRow.holds Tryd.pinned (OpenSpec.ofChange crcSumsWrong)

/-- 'debenturelaw04.CrcFrames': WHATEVER THE INPUT: true; the input reads as it did. -/
def crcFramesSpec : ChangeSpec := { name := "crcFrames", fn := fun _ => fun
  | [d] => { results := [.lit (.bool true)], args := [d] }
  | _ => none }
def crcFramesRow : OpenClaim := { program := "ytbkdlkhaeidhcaadoor", sum := "32a9b4fc084d690bc7c449be92d4714a053b1c8d4ce221dc4f13a54acb9d15cf", func := "debenture/debenturelaw04.CrcFrames", spec := "crcFrames", named := ["debenture/crc.nibbles"], apart := false, laid := [("debenture/crc.nibbles", laid_debenture_crc_nibbles)] }
def CrcFramesSaid : Prop := crcFramesRow.holds Tryd.pinned (OpenSpec.ofChange crcFramesSpec)

/-- ITS FALSE NEIGHBOUR: 'it returns false'. Refute it at one input. -/
def crcFramesWrong : ChangeSpec := { name := "crcFrames", fn := fun _ => fun
  | [d] => { results := [.lit (.bool false)], args := [d] }
  | _ => none }
def CrcFramesWrongFalsely : Prop := crcFramesRow.holds Tryd.pinned (OpenSpec.ofChange crcFramesWrong)

/-- 'debenturelaw04.CrcTurned': WHATEVER THE INPUT: true; the input reads as it did. -/
def crcTurnedSpec : ChangeSpec := { name := "crcTurned", fn := fun _ => fun
  | [d1, d2, d3] => { results := [.lit (.bool true)], args := [d1, d2, d3] }
  | _ => none }
def crcTurnedRow : OpenClaim := { program := "ytbkdlkhaeidhcaadoor", sum := "32a9b4fc084d690bc7c449be92d4714a053b1c8d4ce221dc4f13a54acb9d15cf", func := "debenture/debenturelaw04.CrcTurned", spec := "crcTurned", named := ["debenture/crc.nibbles"], apart := false, laid := [("debenture/crc.nibbles", laid_debenture_crc_nibbles)] }
def CrcTurnedSaid : Prop := crcTurnedRow.holds Tryd.pinned (OpenSpec.ofChange crcTurnedSpec)

/-- ITS FALSE NEIGHBOUR: 'it returns false'. Refute it at one input. -/
def crcTurnedWrong : ChangeSpec := { name := "crcTurned", fn := fun _ => fun
  | [d1, d2, d3] => { results := [.lit (.bool false)], args := [d1, d2, d3] }
  | _ => none }
def CrcTurnedWrongFalsely : Prop := crcTurnedRow.holds Tryd.pinned (OpenSpec.ofChange crcTurnedWrong)

/-- 'debenturelaw04.CrcPatterns': WHATEVER THE INPUT: true; the input reads as it did. -/
def crcPatternsSpec : ChangeSpec := { name := "crcPatterns", fn := fun _ => fun
  | [d1, d2, d3] => { results := [.lit (.bool true)], args := [d1, d2, d3] }
  | _ => none }
def crcPatternsRow : OpenClaim := { program := "ytbkdlkhaeidhcaadoor", sum := "32a9b4fc084d690bc7c449be92d4714a053b1c8d4ce221dc4f13a54acb9d15cf", func := "debenture/debenturelaw04.CrcPatterns", spec := "crcPatterns", named := ["debenture/crc.nibbles"], apart := false, laid := [("debenture/crc.nibbles", laid_debenture_crc_nibbles)] }
def CrcPatternsSaid : Prop := crcPatternsRow.holds Tryd.pinned (OpenSpec.ofChange crcPatternsSpec)

/-- ITS FALSE NEIGHBOUR: 'it returns false'. Refute it at one input. -/
def crcPatternsWrong : ChangeSpec := { name := "crcPatterns", fn := fun _ => fun
  | [d1, d2, d3] => { results := [.lit (.bool false)], args := [d1, d2, d3] }
  | _ => none }
def CrcPatternsWrongFalsely : Prop := crcPatternsRow.holds Tryd.pinned (OpenSpec.ofChange crcPatternsWrong)

/-- 'debenturelaw04.CrcPieces': WHATEVER THE INPUT: true; the input reads as it did. -/
def crcPiecesSpec : ChangeSpec := { name := "crcPieces", fn := fun _ => fun
  | [d1, d2, d3] => { results := [.lit (.bool true)], args := [d1, d2, d3] }
  | _ => none }
def crcPiecesRow : OpenClaim := { program := "ytbkdlkhaeidhcaadoor", sum := "32a9b4fc084d690bc7c449be92d4714a053b1c8d4ce221dc4f13a54acb9d15cf", func := "debenture/debenturelaw04.CrcPieces", spec := "crcPieces", named := ["debenture/crc.nibbles"], apart := false, laid := [("debenture/crc.nibbles", laid_debenture_crc_nibbles)] }
def CrcPiecesSaid : Prop := crcPiecesRow.holds Tryd.pinned (OpenSpec.ofChange crcPiecesSpec)

/-- ITS FALSE NEIGHBOUR: 'it returns false'. Refute it at one input. -/
def crcPiecesWrong : ChangeSpec := { name := "crcPieces", fn := fun _ => fun
  | [d1, d2, d3] => { results := [.lit (.bool false)], args := [d1, d2, d3] }
  | _ => none }
def CrcPiecesWrongFalsely : Prop := crcPiecesRow.holds Tryd.pinned (OpenSpec.ofChange crcPiecesWrong)

/-- 'debenturelaw04.CrcOpens': WHATEVER THE INPUT: true; the input reads as it did. -/
def crcOpensSpec : ChangeSpec := { name := "crcOpens", fn := fun _ => fun
  | [d] => { results := [.lit (.bool true)], args := [d] }
  | _ => none }
def crcOpensRow : OpenClaim := { program := "ytbkdlkhaeidhcaadoor", sum := "32a9b4fc084d690bc7c449be92d4714a053b1c8d4ce221dc4f13a54acb9d15cf", func := "debenture/debenturelaw04.CrcOpens", spec := "crcOpens", named := ["debenture/crc.nibbles"], apart := false, laid := [("debenture/crc.nibbles", laid_debenture_crc_nibbles)] }
def CrcOpensSaid : Prop := crcOpensRow.holds Tryd.pinned (OpenSpec.ofChange crcOpensSpec)

/-- ITS FALSE NEIGHBOUR: 'it returns false'. Refute it at one input. -/
def crcOpensWrong : ChangeSpec := { name := "crcOpens", fn := fun _ => fun
  | [d] => { results := [.lit (.bool false)], args := [d] }
  | _ => none }
def CrcOpensWrongFalsely : Prop := crcOpensRow.holds Tryd.pinned (OpenSpec.ofChange crcOpensWrong)

/-- 'debenturelaw04.CrcBack': WHATEVER THE INPUT: true; the input reads as it did. -/
def crcBackSpec : ChangeSpec := { name := "crcBack", fn := fun _ => fun
  | [d1, d2] => { results := [.lit (.bool true)], args := [d1, d2] }
  | _ => none }
def crcBackRow : OpenClaim := { program := "ytbkdlkhaeidhcaadoor", sum := "32a9b4fc084d690bc7c449be92d4714a053b1c8d4ce221dc4f13a54acb9d15cf", func := "debenture/debenturelaw04.CrcBack", spec := "crcBack", named := ["debenture/crc.nibbles"], apart := false, laid := [("debenture/crc.nibbles", laid_debenture_crc_nibbles)] }
def CrcBackSaid : Prop := crcBackRow.holds Tryd.pinned (OpenSpec.ofChange crcBackSpec)

/-- ITS FALSE NEIGHBOUR: 'it returns false'. Refute it at one input. -/
def crcBackWrong : ChangeSpec := { name := "crcBack", fn := fun _ => fun
  | [d1, d2] => { results := [.lit (.bool false)], args := [d1, d2] }
  | _ => none }
def CrcBackWrongFalsely : Prop := crcBackRow.holds Tryd.pinned (OpenSpec.ofChange crcBackWrong)

/- THE SECOND FORM. 'bulk': how many values and letters a reading holds, each counted each time it is reached (what is shared counts as often as it is met; a slice's spare places count too). A statement '..UptoSaid' is the law's where the arguments, and the package variables that the reading takes, are together of bulk at most 1048576: NARROWER than '..Said'. Prove '..Said' where nothing that the law and all that it calls make is longer than what came in: it says more and counts as full. Else prove '..UptoSaid'. A law counts once. -/
mutual
def uptoBulk {H : Type} : DataW H → Nat
  | .lit (.string bytes) => bytes.length + 1
  | .lit _ => 1
  | .nil => 1
  | .ptr d => uptoBulk d + 1
  | .slice elems spare => uptoBulkAll elems + uptoBulkAll spare + 1
  | .agg parts => uptoBulkAll parts + 1
  | .iface _ d => uptoBulk d + 1
  | .map entries => uptoBulkEntries entries + 1
  | .held _ => 1
def uptoBulkAll {H : Type} : List (DataW H) → Nat
  | [] => 0
  | d :: r => uptoBulk d + uptoBulkAll r
def uptoBulkEntries {H : Type} : List (Lit × DataW H) → Nat
  | [] => 0
  | x :: r => uptoBulkEntry x + uptoBulkEntries r
def uptoBulkEntry {H : Type} : Lit × DataW H → Nat
  | (.string bytes, d) => bytes.length + uptoBulk d + 1
  | (_, d) => uptoBulk d + 1
 end
def uptoSmall : (H : Type) → List (DataW H) → Bool := fun _ ds => decide (uptoBulkAll ds ≤ 1048576)
def OpenSpec.upto (s : _root_.Go.ChangeSpec) : _root_.Go.OpenSpec := { _root_.Go.OpenSpec.ofChange s with cond := some uptoSmall }

/-- 'debenturelaw08.BloomPlaces', WHERE WHAT IT READS IS OF BULK AT MOST 1048576: true; the input reads as it did. -/
def bloomPlacesUptoRow : OpenClaim := { program := "ytbkdlkhaeidhcaadoor", sum := "32a9b4fc084d690bc7c449be92d4714a053b1c8d4ce221dc4f13a54acb9d15cf", func := "debenture/debenturelaw08.BloomPlaces", spec := "bloomPlaces", named := ["debenture/crc.nibbles"], apart := false, laid := [("debenture/crc.nibbles", laid_debenture_crc_nibbles)], narrowed := true }
def BloomPlacesUptoSaid : Prop := bloomPlacesUptoRow.holds Tryd.pinned (OpenSpec.upto bloomPlacesSpec)

/-- 'debenturelaw08.BloomMakes', WHERE WHAT IT READS IS OF BULK AT MOST 1048576: true; the input reads as it did. -/
def bloomMakesUptoRow : OpenClaim := { program := "ytbkdlkhaeidhcaadoor", sum := "32a9b4fc084d690bc7c449be92d4714a053b1c8d4ce221dc4f13a54acb9d15cf", func := "debenture/debenturelaw08.BloomMakes", spec := "bloomMakes", named := ["debenture/crc.nibbles"], apart := false, laid := [("debenture/crc.nibbles", laid_debenture_crc_nibbles)], narrowed := true }
def BloomMakesUptoSaid : Prop := bloomMakesUptoRow.holds Tryd.pinned (OpenSpec.upto bloomMakesSpec)

/-- 'debenturelaw08.BloomHas', WHERE WHAT IT READS IS OF BULK AT MOST 1048576: true; the input reads as it did. -/
def bloomHasUptoRow : OpenClaim := { program := "ytbkdlkhaeidhcaadoor", sum := "32a9b4fc084d690bc7c449be92d4714a053b1c8d4ce221dc4f13a54acb9d15cf", func := "debenture/debenturelaw08.BloomHas", spec := "bloomHas", named := ["debenture/crc.nibbles"], apart := false, laid := [("debenture/crc.nibbles", laid_debenture_crc_nibbles)], narrowed := true }
def BloomHasUptoSaid : Prop := bloomHasUptoRow.holds Tryd.pinned (OpenSpec.upto bloomHasSpec)

/-- 'debenturelaw08.BloomKeeps', WHERE WHAT IT READS IS OF BULK AT MOST 1048576: true; the input reads as it did. -/
def bloomKeepsUptoRow : OpenClaim := { program := "ytbkdlkhaeidhcaadoor", sum := "32a9b4fc084d690bc7c449be92d4714a053b1c8d4ce221dc4f13a54acb9d15cf", func := "debenture/debenturelaw08.BloomKeeps", spec := "bloomKeeps", named := ["debenture/crc.nibbles"], apart := false, laid := [("debenture/crc.nibbles", laid_debenture_crc_nibbles)], narrowed := true }
def BloomKeepsUptoSaid : Prop := bloomKeepsUptoRow.holds Tryd.pinned (OpenSpec.upto bloomKeepsSpec)

/-- 'debenturelaw04.CrcSums', WHERE WHAT IT READS IS OF BULK AT MOST 1048576: true; the input reads as it did. -/
def crcSumsUptoRow : OpenClaim := { program := "ytbkdlkhaeidhcaadoor", sum := "32a9b4fc084d690bc7c449be92d4714a053b1c8d4ce221dc4f13a54acb9d15cf", func := "debenture/debenturelaw04.CrcSums", spec := "crcSums", named := ["debenture/crc.nibbles"], apart := false, laid := [("debenture/crc.nibbles", laid_debenture_crc_nibbles)], narrowed := true }
def CrcSumsUptoSaid : Prop := crcSumsUptoRow.holds Tryd.pinned (OpenSpec.upto crcSumsSpec)

/-- 'debenturelaw04.CrcFrames', WHERE WHAT IT READS IS OF BULK AT MOST 1048576: true; the input reads as it did. -/
def crcFramesUptoRow : OpenClaim := { program := "ytbkdlkhaeidhcaadoor", sum := "32a9b4fc084d690bc7c449be92d4714a053b1c8d4ce221dc4f13a54acb9d15cf", func := "debenture/debenturelaw04.CrcFrames", spec := "crcFrames", named := ["debenture/crc.nibbles"], apart := false, laid := [("debenture/crc.nibbles", laid_debenture_crc_nibbles)], narrowed := true }
def CrcFramesUptoSaid : Prop := crcFramesUptoRow.holds Tryd.pinned (OpenSpec.upto crcFramesSpec)

/-- 'debenturelaw04.CrcTurned', WHERE WHAT IT READS IS OF BULK AT MOST 1048576: true; the input reads as it did. -/
def crcTurnedUptoRow : OpenClaim := { program := "ytbkdlkhaeidhcaadoor", sum := "32a9b4fc084d690bc7c449be92d4714a053b1c8d4ce221dc4f13a54acb9d15cf", func := "debenture/debenturelaw04.CrcTurned", spec := "crcTurned", named := ["debenture/crc.nibbles"], apart := false, laid := [("debenture/crc.nibbles", laid_debenture_crc_nibbles)], narrowed := true }
def CrcTurnedUptoSaid : Prop := crcTurnedUptoRow.holds Tryd.pinned (OpenSpec.upto crcTurnedSpec)

/-- 'debenturelaw04.CrcPatterns', WHERE WHAT IT READS IS OF BULK AT MOST 1048576: true; the input reads as it did. -/
def crcPatternsUptoRow : OpenClaim := { program := "ytbkdlkhaeidhcaadoor", sum := "32a9b4fc084d690bc7c449be92d4714a053b1c8d4ce221dc4f13a54acb9d15cf", func := "debenture/debenturelaw04.CrcPatterns", spec := "crcPatterns", named := ["debenture/crc.nibbles"], apart := false, laid := [("debenture/crc.nibbles", laid_debenture_crc_nibbles)], narrowed := true }
def CrcPatternsUptoSaid : Prop := crcPatternsUptoRow.holds Tryd.pinned (OpenSpec.upto crcPatternsSpec)

/-- 'debenturelaw04.CrcPieces', WHERE WHAT IT READS IS OF BULK AT MOST 1048576: true; the input reads as it did. -/
def crcPiecesUptoRow : OpenClaim := { program := "ytbkdlkhaeidhcaadoor", sum := "32a9b4fc084d690bc7c449be92d4714a053b1c8d4ce221dc4f13a54acb9d15cf", func := "debenture/debenturelaw04.CrcPieces", spec := "crcPieces", named := ["debenture/crc.nibbles"], apart := false, laid := [("debenture/crc.nibbles", laid_debenture_crc_nibbles)], narrowed := true }
def CrcPiecesUptoSaid : Prop := crcPiecesUptoRow.holds Tryd.pinned (OpenSpec.upto crcPiecesSpec)

/-- 'debenturelaw04.CrcOpens', WHERE WHAT IT READS IS OF BULK AT MOST 1048576: true; the input reads as it did. -/
def crcOpensUptoRow : OpenClaim := { program := "ytbkdlkhaeidhcaadoor", sum := "32a9b4fc084d690bc7c449be92d4714a053b1c8d4ce221dc4f13a54acb9d15cf", func := "debenture/debenturelaw04.CrcOpens", spec := "crcOpens", named := ["debenture/crc.nibbles"], apart := false, laid := [("debenture/crc.nibbles", laid_debenture_crc_nibbles)], narrowed := true }
def CrcOpensUptoSaid : Prop := crcOpensUptoRow.holds Tryd.pinned (OpenSpec.upto crcOpensSpec)

/-- 'debenturelaw04.CrcBack', WHERE WHAT IT READS IS OF BULK AT MOST 1048576: true; the input reads as it did. -/
def crcBackUptoRow : OpenClaim := { program := "ytbkdlkhaeidhcaadoor", sum := "32a9b4fc084d690bc7c449be92d4714a053b1c8d4ce221dc4f13a54acb9d15cf", func := "debenture/debenturelaw04.CrcBack", spec := "crcBack", named := ["debenture/crc.nibbles"], apart := false, laid := [("debenture/crc.nibbles", laid_debenture_crc_nibbles)], narrowed := true }
def CrcBackUptoSaid : Prop := crcBackUptoRow.holds Tryd.pinned (OpenSpec.upto crcBackSpec)

end Rows
end Go.Proofs.YtbkdlkhaeidhcaaDoor
