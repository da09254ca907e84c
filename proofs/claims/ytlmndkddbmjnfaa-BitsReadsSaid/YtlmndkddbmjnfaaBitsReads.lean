/- The law BitsReads answers true for every input: every row of a reader's calls is answered as the document says. No condition beyond the statement's own. -/
import Derived.Test.YtlmndkddbmjnfaaLD
namespace Go.Proofs.Ytlmndkddbmjnfaa
theorem bitsReads_holds : Rows.BitsReadsSaid := Go.L1.reads_holds
end Go.Proofs.Ytlmndkddbmjnfaa
