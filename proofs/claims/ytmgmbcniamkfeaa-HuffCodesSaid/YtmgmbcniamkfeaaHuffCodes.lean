/- The law HuffCodes answers true for every input: Room and New tell what the document's tell, and each symbol's code is the document's. No condition beyond the statement's own. -/
import Derived.Test.YtmgmbcniamkfeaaLH
namespace Go.Proofs.Ytmgmbcniamkfeaa
theorem huffCodes_holds : Rows.HuffCodesSaid := Go.L1.codes_row fun ls counts _ _ _ _ => Go.L1.codes_ok ls counts
end Go.Proofs.Ytmgmbcniamkfeaa
