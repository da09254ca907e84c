/- The law BitsJoin answers true for every input: a number written in two parts is that written at once. No condition beyond the statement's own. -/
import Derived.Test.YtlmndkddbmjnfaaLC
namespace Go.Proofs.Ytlmndkddbmjnfaa
theorem bitsJoin_holds : Rows.BitsJoinSaid := Go.L1.join_holds
end Go.Proofs.Ytlmndkddbmjnfaa
