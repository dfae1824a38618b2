/- []byte of a literal: the row is marked; its cells read the same. -/
import Derived.Test.YtfmdngeooelcpaaGreatClone
namespace Go.Proofs.YtfmdngeooelcpaaGreat
open Go.RowKit

end Go.Proofs.YtfmdngeooelcpaaGreat
