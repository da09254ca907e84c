/- The law LensBuilds answers true for every input: what Build answers stands in place of the counts' symbols, within the limit, fills the room, and costs the least. No condition beyond the statement's own. -/
import Derived.Test.YtljlflcgpbenpaaLR
import Derived.Test.YtljlflcgpbenpaaLH
namespace Go.Proofs.Ytljlflcgpbenpaa
theorem lensBuilds_holds : Rows.LensBuildsSaid := Go.L1.lbuilds_row fun counts limit _ _ _ => Go.L1.builds_ok counts limit
end Go.Proofs.Ytljlflcgpbenpaa
