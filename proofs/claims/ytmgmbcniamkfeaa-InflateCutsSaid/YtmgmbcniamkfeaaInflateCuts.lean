/- The law InflateCuts answers true for every input: packed bytes that are cut off are none, and what is behind them doesn't matter. No condition beyond the statement's own. -/
import Derived.Test.YtmgmbcniamkfeaaRB
import Derived.Test.YtmgmbcniamkfeaaLJ
namespace Go.Proofs.Ytmgmbcniamkfeaa
theorem inflateCuts_holds : Rows.InflateCutsSaid := Go.L1.icuts_row fun b cut more _ _ _ _ _ => Go.L1.cuts_ok b cut more
end Go.Proofs.Ytmgmbcniamkfeaa
