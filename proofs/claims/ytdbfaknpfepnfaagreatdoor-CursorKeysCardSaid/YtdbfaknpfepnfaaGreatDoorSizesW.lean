
/-
  The walk of the law CodecSizes.
-/
import Derived.Test.YtdbfaknpfepnfaaGreatDoorRefNumW
namespace Go.Proofs.YtdbfaknpfepnfaaGreatDoor
open Go.RowKit CodecP

end Go.Proofs.YtdbfaknpfepnfaaGreatDoor
