/- The law HuffPrefix answers true for every input: no code is another one's beginning, and of a complete code all bits begin with some code. No condition beyond the statement's own. -/
import Derived.Test.YtmgmbcniamkfeaaLD
namespace Go.Proofs.Ytmgmbcniamkfeaa
theorem huffPrefix_holds : Rows.HuffPrefixSaid := Go.L1.prefix_row fun ls more _ _ _ => Go.L1.prefix_ok ls more
end Go.Proofs.Ytmgmbcniamkfeaa
