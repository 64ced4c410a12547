
/-
  The walk of the law CodecSizes.
-/
import Derived.Test.YtdbfaknpfepnfaaDoorRefNumW
namespace Go.Proofs.YtdbfaknpfepnfaaDoor
open Go.RowKit CodecP

end Go.Proofs.YtdbfaknpfepnfaaDoor
