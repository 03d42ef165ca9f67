/-
  concordanceref9.SameTexts, Rank.
-/
import Derived.Test.YtckmabdphdcpmaaRefBwt
namespace Go.Proofs.Ytckmabdphdcpmaa
open Go.RowKit

end Go.Proofs.Ytckmabdphdcpmaa
