
/-
  What the claims of this seat share.
-/
import Derived.Test.YtcoicdaobgneeaaRows
import Derived.ProofKit
import Derived.OpenShut
namespace Go.Proofs.Ytcoicdaobgneeaa
open Go.ChangeShapes Go.WideShapes Go.ChangeAt Go.RowKit Go.ChangeMaps

theorem own : ownKnob Try.prog.godebug = none := by kernel_rfl
theorem laidOut : laidOutB Try.prog = true := by kernel_rfl
end Go.Proofs.Ytcoicdaobgneeaa
