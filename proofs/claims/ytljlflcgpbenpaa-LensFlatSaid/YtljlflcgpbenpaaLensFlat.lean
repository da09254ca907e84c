/- The law LensFlat answers true for every input: so many counts that are all the same have lengths of at most two kinds, one apart. No condition beyond the statement's own. -/
import Derived.Test.YtljlflcgpbenpaaLR
import Derived.Test.YtljlflcgpbenpaaLG
namespace Go.Proofs.Ytljlflcgpbenpaa
theorem lensFlat_holds : Rows.LensFlatSaid := Go.L1.lflat_row fun many count limit _ _ _ => Go.L1.flat_ok many count limit
end Go.Proofs.Ytljlflcgpbenpaa
