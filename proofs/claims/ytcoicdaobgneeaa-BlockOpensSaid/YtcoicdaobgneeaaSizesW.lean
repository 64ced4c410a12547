
/-
  The walk of the law CodecSizes.
-/
import Derived.Test.YtcoicdaobgneeaaRefNumW
namespace Go.Proofs.Ytcoicdaobgneeaa
open Go.RowKit CodecP

end Go.Proofs.Ytcoicdaobgneeaa
