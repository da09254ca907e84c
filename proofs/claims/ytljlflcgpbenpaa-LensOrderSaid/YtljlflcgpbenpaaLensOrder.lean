/- The law LensOrder answers true for every input: of two counts the greater one has no greater length, and a greater limit makes no greater cost. No condition beyond the statement's own. -/
import Derived.Test.YtljlflcgpbenpaaLR
import Derived.Test.YtljlflcgpbenpaaLE
namespace Go.Proofs.Ytljlflcgpbenpaa
theorem lensOrder_holds : Rows.LensOrderSaid := Go.L1.lorder_row fun counts limit _ _ _ => Go.L1.order_ok5 counts limit
end Go.Proofs.Ytljlflcgpbenpaa
