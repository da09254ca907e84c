/- The law BitsBack answers true for every input: numbers that are written are read again, in order. No condition beyond the statement's own. -/
import Derived.Test.YtlmndkddbmjnfaaLC
namespace Go.Proofs.Ytlmndkddbmjnfaa
theorem bitsBack_holds : Rows.BitsBackSaid := Go.L1.back_holds
end Go.Proofs.Ytlmndkddbmjnfaa
