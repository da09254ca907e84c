/- The law HuffBack answers true for every input: symbols that are written are read again, and take as many bits as their cost says. No condition beyond the statement's own. -/
import Derived.Test.YtmgmbcniamkfeaaLE
namespace Go.Proofs.Ytmgmbcniamkfeaa
theorem huffBack_holds : Rows.HuffBackSaid := Go.L1.hback_row fun ls syms _ _ _ _ => Go.L1.hback_ok ls syms
end Go.Proofs.Ytmgmbcniamkfeaa
