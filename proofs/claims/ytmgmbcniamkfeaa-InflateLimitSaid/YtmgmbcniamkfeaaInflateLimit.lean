/- The law InflateLimit answers true for every input: what unpacks tells no more bytes than the limit, the same bytes with the limit that they need, and the error with one less. No condition beyond the statement's own. -/
import Derived.Test.YtmgmbcniamkfeaaRB
import Derived.Test.YtmgmbcniamkfeaaLI
namespace Go.Proofs.Ytmgmbcniamkfeaa
theorem inflateLimit_holds : Rows.InflateLimitSaid := Go.L1.ilimit_row fun b lim _ _ _ => Go.L1.limit_ok b lim
end Go.Proofs.Ytmgmbcniamkfeaa
