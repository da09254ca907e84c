/- The law InflateFixed answers true for every input: bytes, and a length that goes back among them, by the fixed codes, are told as they are. No condition beyond the statement's own. -/
import Derived.Test.YtmgmbcniamkfeaaRB
import Derived.Test.YtmgmbcniamkfeaaLM
namespace Go.Proofs.Ytmgmbcniamkfeaa
theorem inflateFixed_holds : Rows.InflateFixedSaid := Go.L1.ifixed_row fun lit sym extra far more _ _ _ _ _ _ => Go.L1.fixed_law lit sym extra far more
end Go.Proofs.Ytmgmbcniamkfeaa
