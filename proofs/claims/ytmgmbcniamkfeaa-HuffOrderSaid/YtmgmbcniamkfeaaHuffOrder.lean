/- The law HuffOrder answers true for every input: turned around and filled up to 15 bits, the codes rise by length, and of one length by symbol. No condition beyond the statement's own. -/
import Derived.Test.YtmgmbcniamkfeaaLC
namespace Go.Proofs.Ytmgmbcniamkfeaa
theorem huffOrder_holds : Rows.HuffOrderSaid := Go.L1.order_row fun ls _ _ => Go.L1.order_ok ls
end Go.Proofs.Ytmgmbcniamkfeaa
