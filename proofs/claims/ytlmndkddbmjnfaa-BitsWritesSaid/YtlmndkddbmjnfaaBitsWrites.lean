/- The law BitsWrites answers true for every input: every row of a writer's calls comes to the bytes that the document says, and Reverse turns bits around. No condition beyond the statement's own. -/
import Derived.Test.YtlmndkddbmjnfaaLB
namespace Go.Proofs.Ytlmndkddbmjnfaa
theorem bitsWrites_holds : Rows.BitsWritesSaid := Go.L1.writes_holds
end Go.Proofs.Ytlmndkddbmjnfaa
