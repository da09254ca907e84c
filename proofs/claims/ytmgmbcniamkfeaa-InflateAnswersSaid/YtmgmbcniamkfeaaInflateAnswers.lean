/- The law InflateAnswers answers true for every input: each Inflate of the code tells what the document's Inflate tells of the same bytes and limit. No condition beyond the statement's own. -/
import Derived.Test.YtmgmbcniamkfeaaPR
import Derived.Test.YtmgmbcniamkfeaaPK
namespace Go.Proofs.Ytmgmbcniamkfeaa
theorem inflateAnswers_holds : Rows.InflateAnswersSaid := Go.L1.ianswers_row fun b lim _ _ _ => Go.L1.answers_ok b lim
end Go.Proofs.Ytmgmbcniamkfeaa
