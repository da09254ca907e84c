/- The law LensPacks answers true for every input: what Pack answers is what the document's Pack answers, both Unpacks answer alike, and what is packed is unpacked as it was. No condition beyond the statement's own. -/
import Derived.Test.YtljlflcgpbenpaaLR
import Derived.Test.YtljlflcgpbenpaaLI
namespace Go.Proofs.Ytljlflcgpbenpaa
theorem lensPacks_holds : Rows.LensPacksSaid := Go.L1.lpacks_row fun lengths list _ _ _ _ => Go.L1.packs_ok lengths list
end Go.Proofs.Ytljlflcgpbenpaa
