/- The law LensScale answers true for every input: counts that are so many times as great have so many times the cost, and a count that is left out makes no greater one. No condition beyond the statement's own. -/
import Derived.Test.YtljlflcgpbenpaaLR
import Derived.Test.YtljlflcgpbenpaaLF
namespace Go.Proofs.Ytljlflcgpbenpaa
theorem lensScale_holds : Rows.LensScaleSaid := Go.L1.lscale_row fun counts limit times _ _ _ _ => Go.L1.scale_ok counts limit times
end Go.Proofs.Ytljlflcgpbenpaa
