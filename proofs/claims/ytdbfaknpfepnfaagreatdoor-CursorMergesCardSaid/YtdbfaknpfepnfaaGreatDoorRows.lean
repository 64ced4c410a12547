/-
  NARROWER THAN 'FOR EVERY INPUT', by the rows' own cells (each row's printed sentence says how): CursorKeys: laid · CursorViews: laid · TableBuilds: laid · TableGets: laid · CursorMerges: laid · TableBack: laid · TableNone: laid.
  DERIVED. THE GIVEN ROWS OF THIS SEAT. 7 by the template 'for every input the law returns true; each argument reads behind the call as it read before'; 0 by the template 'total and deterministic' (their statements: YtdbfaknpfepnfaaGreatDoorTotals.lean).
  GIVEN WITH THE SEED: the statements are not yours to turn. If you find one false, say at which input.
  Laid BY PROGRAM, IN A SANDBOX (cutbox-rows.mjs): the forced cells as the released guide's own fill.sh prints them over the translation fda8ad3a3c5691bc… (all of the seat's roots in one cut). By AI agents, Wed Nov 11 2026. No macro, syntax, notation, axiom, sorry.
-/
import Derived.Test.YtdbfaknpfepnfaaGreatDoorChecked
import GoSem.Claim
import GoSem.ClaimJoined
import GoSem.ClaimMapViews
import Derived.JoinedTies
import Derived.KernelRfl
namespace Go.Proofs.YtdbfaknpfepnfaaGreatDoor
/- THE CELL 'sum', in the pinned program and in every row, IS THE sha256 OF THE DUMP (.gsa) THAT YtdbfaknpfepnfaaGreatDoorProg.lean LOADS. Nothing in Lean hashes anything: it is a label: what it is worth is what the hold of that sum in a sandbox is worth. -/
noncomputable def Tryz.pinned : Pinned := { name := "ytdbfaknpfepnfaagreatdoor", sum := "fda8ad3a3c5691bc984f815901d24b3c480d9374e090c4d37d30004717cd070f", checked := Tryz.checked }
namespace Rows
def none {H : Type} : Left H := { results := [], args := [] }

/- WHAT THE LISTED PACKAGE-LEVEL VARIABLES READ AS WHEN THE CALL BEGINS. Each datum BY PROGRAM (the guide's laid-datum.mjs) off the statement by which the dump's own 'gosem.cut.vars' lays the variable. In a bare row this is a premise. The card (YtdbfaknpfepnfaaGreatDoorCards.lean) ties it to the program's text. -/
def laid_debenture_crc_nibbles {H : Type} : DataW H := .agg [.lit (.int .u32 0), .lit (.int .u32 274646895), .lit (.int .u32 549293790), .lit (.int .u32 820201905), .lit (.int .u32 1098587580), .lit (.int .u32 1361435347), .lit (.int .u32 1640403810), .lit (.int .u32 1905808397), .lit (.int .u32 2197175160), .lit (.int .u32 2460548119), .lit (.int .u32 2722870694), .lit (.int .u32 2987750089), .lit (.int .u32 3280807620), .lit (.int .u32 3553878443), .lit (.int .u32 3811616794), .lit (.int .u32 4084100981)]

/-- 'debenturelaw14.CursorKeys': WHATEVER THE INPUT: true; the input reads as it did. -/
def cursorKeysSpec : ChangeSpec := { name := "cursorKeys", fn := fun _ => fun
  | [d1, d2, d3] => { results := [.lit (.bool true)], args := [d1, d2, d3] }
  | _ => none }
def cursorKeysRow : OpenClaim := { program := "ytdbfaknpfepnfaagreatdoor", sum := "fda8ad3a3c5691bc984f815901d24b3c480d9374e090c4d37d30004717cd070f", func := "debenture/debenturelaw14.CursorKeys", spec := "cursorKeys", inPlace := ["internal/bytealg.abigen_runtime_cmpstring", "internal/bytealg.IndexByteString", "internal/bytealg.IndexString"], unfollowed := true, recurses := true, named := ["debenture/crc.nibbles", "internal/bytealg.MaxLen"], plainKeys := false, apart := false, laid := [("debenture/crc.nibbles", laid_debenture_crc_nibbles)] }
def CursorKeysSaid : Prop := cursorKeysRow.holds Tryz.pinned (OpenSpec.ofChange cursorKeysSpec)

/-- ITS FALSE NEIGHBOUR: 'it returns false'. Refute it at one input. -/
def cursorKeysWrong : ChangeSpec := { name := "cursorKeys", fn := fun _ => fun
  | [d1, d2, d3] => { results := [.lit (.bool false)], args := [d1, d2, d3] }
  | _ => none }
def CursorKeysWrongFalsely : Prop := cursorKeysRow.holds Tryz.pinned (OpenSpec.ofChange cursorKeysWrong)

/-- 'debenturelaw14.CursorViews': WHATEVER THE INPUT: true; the input reads as it did. -/
def cursorViewsSpec : ChangeSpec := { name := "cursorViews", fn := fun _ => fun
  | [d1, d2, d3] => { results := [.lit (.bool true)], args := [d1, d2, d3] }
  | _ => none }
def cursorViewsRow : OpenClaim := { program := "ytdbfaknpfepnfaagreatdoor", sum := "fda8ad3a3c5691bc984f815901d24b3c480d9374e090c4d37d30004717cd070f", func := "debenture/debenturelaw14.CursorViews", spec := "cursorViews", inPlace := ["internal/bytealg.abigen_runtime_cmpstring", "internal/bytealg.IndexByteString", "internal/bytealg.IndexString"], unfollowed := true, recurses := true, named := ["debenture/crc.nibbles", "internal/bytealg.MaxLen"], plainKeys := false, apart := false, laid := [("debenture/crc.nibbles", laid_debenture_crc_nibbles)] }
def CursorViewsSaid : Prop := cursorViewsRow.holds Tryz.pinned (OpenSpec.ofChange cursorViewsSpec)

/-- ITS FALSE NEIGHBOUR: 'it returns false'. Refute it at one input. -/
def cursorViewsWrong : ChangeSpec := { name := "cursorViews", fn := fun _ => fun
  | [d1, d2, d3] => { results := [.lit (.bool false)], args := [d1, d2, d3] }
  | _ => none }
def CursorViewsWrongFalsely : Prop := cursorViewsRow.holds Tryz.pinned (OpenSpec.ofChange cursorViewsWrong)

/-- 'debenturelaw11.TableBuilds': WHATEVER THE INPUT: true; the input reads as it did. -/
def tableBuildsSpec : ChangeSpec := { name := "tableBuilds", fn := fun _ => fun
  | [d1, d2] => { results := [.lit (.bool true)], args := [d1, d2] }
  | _ => none }
def tableBuildsRow : OpenClaim := { program := "ytdbfaknpfepnfaagreatdoor", sum := "fda8ad3a3c5691bc984f815901d24b3c480d9374e090c4d37d30004717cd070f", func := "debenture/debenturelaw11.TableBuilds", spec := "tableBuilds", inPlace := ["internal/abi.NoEscape", "internal/bytealg.IndexByteString", "internal/bytealg.IndexString", "internal/bytealg.abigen_runtime_cmpstring"], unfollowed := true, recurses := true, named := ["debenture/crc.nibbles", "internal/bytealg.MaxLen"], plainKeys := false, apart := false, laid := [("debenture/crc.nibbles", laid_debenture_crc_nibbles)] }
def TableBuildsSaid : Prop := tableBuildsRow.holds Tryz.pinned (OpenSpec.ofChange tableBuildsSpec)

/-- ITS FALSE NEIGHBOUR: 'it returns false'. Refute it at one input. -/
def tableBuildsWrong : ChangeSpec := { name := "tableBuilds", fn := fun _ => fun
  | [d1, d2] => { results := [.lit (.bool false)], args := [d1, d2] }
  | _ => none }
def TableBuildsWrongFalsely : Prop := tableBuildsRow.holds Tryz.pinned (OpenSpec.ofChange tableBuildsWrong)

/-- 'debenturelaw11.TableGets': WHATEVER THE INPUT: true; the input reads as it did. -/
def tableGetsSpec : ChangeSpec := { name := "tableGets", fn := fun _ => fun
  | [d1, d2, d3, d4, d5] => { results := [.lit (.bool true)], args := [d1, d2, d3, d4, d5] }
  | _ => none }
def tableGetsRow : OpenClaim := { program := "ytdbfaknpfepnfaagreatdoor", sum := "fda8ad3a3c5691bc984f815901d24b3c480d9374e090c4d37d30004717cd070f", func := "debenture/debenturelaw11.TableGets", spec := "tableGets", inPlace := ["internal/abi.NoEscape", "internal/bytealg.IndexByteString", "internal/bytealg.IndexString", "internal/bytealg.abigen_runtime_cmpstring"], unfollowed := true, recurses := true, named := ["debenture/crc.nibbles", "internal/bytealg.MaxLen"], plainKeys := false, apart := false, laid := [("debenture/crc.nibbles", laid_debenture_crc_nibbles)] }
def TableGetsSaid : Prop := tableGetsRow.holds Tryz.pinned (OpenSpec.ofChange tableGetsSpec)

/-- ITS FALSE NEIGHBOUR: 'it returns false'. Refute it at one input. -/
def tableGetsWrong : ChangeSpec := { name := "tableGets", fn := fun _ => fun
  | [d1, d2, d3, d4, d5] => { results := [.lit (.bool false)], args := [d1, d2, d3, d4, d5] }
  | _ => none }
def TableGetsWrongFalsely : Prop := tableGetsRow.holds Tryz.pinned (OpenSpec.ofChange tableGetsWrong)

/-- 'debenturelaw14.CursorMerges': WHATEVER THE INPUT: true; the input reads as it did. -/
def cursorMergesSpec : ChangeSpec := { name := "cursorMerges", fn := fun _ => fun
  | [d1, d2] => { results := [.lit (.bool true)], args := [d1, d2] }
  | _ => none }
def cursorMergesRow : OpenClaim := { program := "ytdbfaknpfepnfaagreatdoor", sum := "fda8ad3a3c5691bc984f815901d24b3c480d9374e090c4d37d30004717cd070f", func := "debenture/debenturelaw14.CursorMerges", spec := "cursorMerges", inPlace := ["internal/bytealg.abigen_runtime_cmpstring", "internal/bytealg.IndexByteString", "internal/bytealg.IndexString"], unfollowed := true, recurses := true, named := ["debenture/crc.nibbles", "internal/bytealg.MaxLen"], plainKeys := false, apart := false, laid := [("debenture/crc.nibbles", laid_debenture_crc_nibbles)] }
def CursorMergesSaid : Prop := cursorMergesRow.holds Tryz.pinned (OpenSpec.ofChange cursorMergesSpec)

/-- ITS FALSE NEIGHBOUR: 'it returns false'. Refute it at one input. -/
def cursorMergesWrong : ChangeSpec := { name := "cursorMerges", fn := fun _ => fun
  | [d1, d2] => { results := [.lit (.bool false)], args := [d1, d2] }
  | _ => none }
def CursorMergesWrongFalsely : Prop := cursorMergesRow.holds Tryz.pinned (OpenSpec.ofChange cursorMergesWrong)

/-- 'debenturelaw11.TableBack': WHATEVER THE INPUT: true; the input reads as it did. -/
def tableBackSpec : ChangeSpec := { name := "tableBack", fn := fun _ => fun
  | [d1, d2, d3] => { results := [.lit (.bool true)], args := [d1, d2, d3] }
  | _ => none }
def tableBackRow : OpenClaim := { program := "ytdbfaknpfepnfaagreatdoor", sum := "fda8ad3a3c5691bc984f815901d24b3c480d9374e090c4d37d30004717cd070f", func := "debenture/debenturelaw11.TableBack", spec := "tableBack", inPlace := ["internal/abi.NoEscape", "internal/bytealg.IndexByteString", "internal/bytealg.IndexString", "internal/bytealg.abigen_runtime_cmpstring"], unfollowed := true, recurses := true, named := ["debenture/crc.nibbles", "internal/bytealg.MaxLen"], plainKeys := false, apart := false, laid := [("debenture/crc.nibbles", laid_debenture_crc_nibbles)] }
def TableBackSaid : Prop := tableBackRow.holds Tryz.pinned (OpenSpec.ofChange tableBackSpec)

/-- ITS FALSE NEIGHBOUR: 'it returns false'. Refute it at one input. -/
def tableBackWrong : ChangeSpec := { name := "tableBack", fn := fun _ => fun
  | [d1, d2, d3] => { results := [.lit (.bool false)], args := [d1, d2, d3] }
  | _ => none }
def TableBackWrongFalsely : Prop := tableBackRow.holds Tryz.pinned (OpenSpec.ofChange tableBackWrong)

/-- 'debenturelaw11.TableNone': WHATEVER THE INPUT: true; the input reads as it did. -/
def tableNoneSpec : ChangeSpec := { name := "tableNone", fn := fun _ => fun
  | [d1, d2] => { results := [.lit (.bool true)], args := [d1, d2] }
  | _ => none }
def tableNoneRow : OpenClaim := { program := "ytdbfaknpfepnfaagreatdoor", sum := "fda8ad3a3c5691bc984f815901d24b3c480d9374e090c4d37d30004717cd070f", func := "debenture/debenturelaw11.TableNone", spec := "tableNone", inPlace := ["internal/abi.NoEscape", "internal/bytealg.IndexByteString", "internal/bytealg.IndexString", "internal/bytealg.abigen_runtime_cmpstring"], unfollowed := true, recurses := true, named := ["debenture/crc.nibbles", "internal/bytealg.MaxLen"], plainKeys := false, apart := false, laid := [("debenture/crc.nibbles", laid_debenture_crc_nibbles)] }
def TableNoneSaid : Prop := tableNoneRow.holds Tryz.pinned (OpenSpec.ofChange tableNoneSpec)

/-- ITS FALSE NEIGHBOUR: 'it returns false'. Refute it at one input. -/
def tableNoneWrong : ChangeSpec := { name := "tableNone", fn := fun _ => fun
  | [d1, d2] => { results := [.lit (.bool false)], args := [d1, d2] }
  | _ => none }
def TableNoneWrongFalsely : Prop := tableNoneRow.holds Tryz.pinned (OpenSpec.ofChange tableNoneWrong)

/- THE SECOND FORM. 'bulk': how many values and letters a reading holds, each counted each time it is reached (what is shared counts as often as it is met; a slice's spare places count too). A statement '..UptoSaid' is the law's where the arguments, and the package variables that the reading takes, are together of bulk at most 1048576: NARROWER than '..Said'. Prove '..Said' where nothing that the law and all that it calls make is longer than what came in: it says more and counts as full. Else prove '..UptoSaid'. A law counts once. -/
mutual
def uptoBulk {H : Type} : DataW H → Nat
  | .lit (.string bytes) => bytes.length + 1
  | .lit _ => 1
  | .nil => 1
  | .ptr d => uptoBulk d + 1
  | .slice elems spare => uptoBulkAll elems + uptoBulkAll spare + 1
  | .agg parts => uptoBulkAll parts + 1
  | .iface _ d => uptoBulk d + 1
  | .map entries => uptoBulkEntries entries + 1
  | .held _ => 1
def uptoBulkAll {H : Type} : List (DataW H) → Nat
  | [] => 0
  | d :: r => uptoBulk d + uptoBulkAll r
def uptoBulkEntries {H : Type} : List (Lit × DataW H) → Nat
  | [] => 0
  | x :: r => uptoBulkEntry x + uptoBulkEntries r
def uptoBulkEntry {H : Type} : Lit × DataW H → Nat
  | (.string bytes, d) => bytes.length + uptoBulk d + 1
  | (_, d) => uptoBulk d + 1
 end
def uptoSmall : (H : Type) → List (DataW H) → Bool := fun _ ds => decide (uptoBulkAll ds ≤ 1048576)
def OpenSpec.upto (s : _root_.Go.ChangeSpec) : _root_.Go.OpenSpec := { _root_.Go.OpenSpec.ofChange s with cond := some uptoSmall }

/-- 'debenturelaw14.CursorKeys', WHERE WHAT IT READS IS OF BULK AT MOST 1048576: true; the input reads as it did. -/
def cursorKeysUptoRow : OpenClaim := { program := "ytdbfaknpfepnfaagreatdoor", sum := "fda8ad3a3c5691bc984f815901d24b3c480d9374e090c4d37d30004717cd070f", func := "debenture/debenturelaw14.CursorKeys", spec := "cursorKeys", inPlace := ["internal/bytealg.abigen_runtime_cmpstring", "internal/bytealg.IndexByteString", "internal/bytealg.IndexString"], unfollowed := true, recurses := true, named := ["debenture/crc.nibbles", "internal/bytealg.MaxLen"], plainKeys := false, apart := false, laid := [("debenture/crc.nibbles", laid_debenture_crc_nibbles)], narrowed := true }
def CursorKeysUptoSaid : Prop := cursorKeysUptoRow.holds Tryz.pinned (OpenSpec.upto cursorKeysSpec)

/-- 'debenturelaw14.CursorViews', WHERE WHAT IT READS IS OF BULK AT MOST 1048576: true; the input reads as it did. -/
def cursorViewsUptoRow : OpenClaim := { program := "ytdbfaknpfepnfaagreatdoor", sum := "fda8ad3a3c5691bc984f815901d24b3c480d9374e090c4d37d30004717cd070f", func := "debenture/debenturelaw14.CursorViews", spec := "cursorViews", inPlace := ["internal/bytealg.abigen_runtime_cmpstring", "internal/bytealg.IndexByteString", "internal/bytealg.IndexString"], unfollowed := true, recurses := true, named := ["debenture/crc.nibbles", "internal/bytealg.MaxLen"], plainKeys := false, apart := false, laid := [("debenture/crc.nibbles", laid_debenture_crc_nibbles)], narrowed := true }
def CursorViewsUptoSaid : Prop := cursorViewsUptoRow.holds Tryz.pinned (OpenSpec.upto cursorViewsSpec)

/-- 'debenturelaw11.TableBuilds', WHERE WHAT IT READS IS OF BULK AT MOST 1048576: true; the input reads as it did. -/
def tableBuildsUptoRow : OpenClaim := { program := "ytdbfaknpfepnfaagreatdoor", sum := "fda8ad3a3c5691bc984f815901d24b3c480d9374e090c4d37d30004717cd070f", func := "debenture/debenturelaw11.TableBuilds", spec := "tableBuilds", inPlace := ["internal/abi.NoEscape", "internal/bytealg.IndexByteString", "internal/bytealg.IndexString", "internal/bytealg.abigen_runtime_cmpstring"], unfollowed := true, recurses := true, named := ["debenture/crc.nibbles", "internal/bytealg.MaxLen"], plainKeys := false, apart := false, laid := [("debenture/crc.nibbles", laid_debenture_crc_nibbles)], narrowed := true }
def TableBuildsUptoSaid : Prop := tableBuildsUptoRow.holds Tryz.pinned (OpenSpec.upto tableBuildsSpec)

/-- 'debenturelaw11.TableGets', WHERE WHAT IT READS IS OF BULK AT MOST 1048576: true; the input reads as it did. -/
def tableGetsUptoRow : OpenClaim := { program := "ytdbfaknpfepnfaagreatdoor", sum := "fda8ad3a3c5691bc984f815901d24b3c480d9374e090c4d37d30004717cd070f", func := "debenture/debenturelaw11.TableGets", spec := "tableGets", inPlace := ["internal/abi.NoEscape", "internal/bytealg.IndexByteString", "internal/bytealg.IndexString", "internal/bytealg.abigen_runtime_cmpstring"], unfollowed := true, recurses := true, named := ["debenture/crc.nibbles", "internal/bytealg.MaxLen"], plainKeys := false, apart := false, laid := [("debenture/crc.nibbles", laid_debenture_crc_nibbles)], narrowed := true }
def TableGetsUptoSaid : Prop := tableGetsUptoRow.holds Tryz.pinned (OpenSpec.upto tableGetsSpec)

/-- 'debenturelaw14.CursorMerges', WHERE WHAT IT READS IS OF BULK AT MOST 1048576: true; the input reads as it did. -/
def cursorMergesUptoRow : OpenClaim := { program := "ytdbfaknpfepnfaagreatdoor", sum := "fda8ad3a3c5691bc984f815901d24b3c480d9374e090c4d37d30004717cd070f", func := "debenture/debenturelaw14.CursorMerges", spec := "cursorMerges", inPlace := ["internal/bytealg.abigen_runtime_cmpstring", "internal/bytealg.IndexByteString", "internal/bytealg.IndexString"], unfollowed := true, recurses := true, named := ["debenture/crc.nibbles", "internal/bytealg.MaxLen"], plainKeys := false, apart := false, laid := [("debenture/crc.nibbles", laid_debenture_crc_nibbles)], narrowed := true }
def CursorMergesUptoSaid : Prop := cursorMergesUptoRow.holds Tryz.pinned (OpenSpec.upto cursorMergesSpec)

/-- 'debenturelaw11.TableBack', WHERE WHAT IT READS IS OF BULK AT MOST 1048576: true; the input reads as it did. -/
def tableBackUptoRow : OpenClaim := { program := "ytdbfaknpfepnfaagreatdoor", sum := "fda8ad3a3c5691bc984f815901d24b3c480d9374e090c4d37d30004717cd070f", func := "debenture/debenturelaw11.TableBack", spec := "tableBack", inPlace := ["internal/abi.NoEscape", "internal/bytealg.IndexByteString", "internal/bytealg.IndexString", "internal/bytealg.abigen_runtime_cmpstring"], unfollowed := true, recurses := true, named := ["debenture/crc.nibbles", "internal/bytealg.MaxLen"], plainKeys := false, apart := false, laid := [("debenture/crc.nibbles", laid_debenture_crc_nibbles)], narrowed := true }
def TableBackUptoSaid : Prop := tableBackUptoRow.holds Tryz.pinned (OpenSpec.upto tableBackSpec)

/-- 'debenturelaw11.TableNone', WHERE WHAT IT READS IS OF BULK AT MOST 1048576: true; the input reads as it did. -/
def tableNoneUptoRow : OpenClaim := { program := "ytdbfaknpfepnfaagreatdoor", sum := "fda8ad3a3c5691bc984f815901d24b3c480d9374e090c4d37d30004717cd070f", func := "debenture/debenturelaw11.TableNone", spec := "tableNone", inPlace := ["internal/abi.NoEscape", "internal/bytealg.IndexByteString", "internal/bytealg.IndexString", "internal/bytealg.abigen_runtime_cmpstring"], unfollowed := true, recurses := true, named := ["debenture/crc.nibbles", "internal/bytealg.MaxLen"], plainKeys := false, apart := false, laid := [("debenture/crc.nibbles", laid_debenture_crc_nibbles)], narrowed := true }
def TableNoneUptoSaid : Prop := tableNoneUptoRow.holds Tryz.pinned (OpenSpec.upto tableNoneSpec)

end Rows
end Go.Proofs.YtdbfaknpfepnfaaGreatDoor
