/- The law InflateStored answers true for every input: bytes in stored blocks, of whatever sizes, are told as they are. No condition beyond the statement's own. -/
import Derived.Test.YtmgmbcniamkfeaaRC
import Derived.Test.YtmgmbcniamkfeaaLL
namespace Go.Proofs.Ytmgmbcniamkfeaa
theorem inflateStored_holds : Rows.InflateStoredSaid := Go.L1.istored_row fun list _ _ => Go.L1.stored_law list
end Go.Proofs.Ytmgmbcniamkfeaa
