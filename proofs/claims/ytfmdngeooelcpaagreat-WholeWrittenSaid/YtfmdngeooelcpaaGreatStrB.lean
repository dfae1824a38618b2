/- []byte(s) of a string that is no constant. -/
import Derived.Test.YtfmdngeooelcpaaGreatFreeze
import Derived.Test.YtfmdngeooelcpaaGreatRig
import Derived.Lib.ConvBytes
namespace Go.Proofs.YtfmdngeooelcpaaGreat
open Go.RowKit

end Go.Proofs.YtfmdngeooelcpaaGreat
