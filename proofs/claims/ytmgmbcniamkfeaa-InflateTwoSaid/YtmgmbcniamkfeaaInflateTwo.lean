/- The law InflateTwo answers true for every input: packed bytes, one row behind the other, are each told by how many bytes the first one uses. No condition beyond the statement's own. -/
import Derived.Test.YtmgmbcniamkfeaaRB
import Derived.Test.YtmgmbcniamkfeaaLJ
namespace Go.Proofs.Ytmgmbcniamkfeaa
theorem inflateTwo_holds : Rows.InflateTwoSaid := Go.L1.itwo_row fun a b _ _ _ _ => Go.L1.two_ok a b
end Go.Proofs.Ytmgmbcniamkfeaa
