/- The law HuffReads answers true for every input: each Next of the code tells what the document's Next tells of the same bits. No condition beyond the statement's own. -/
import Derived.Test.YtmgmbcniamkfeaaLG
namespace Go.Proofs.Ytmgmbcniamkfeaa
theorem huffReads_holds : Rows.HuffReadsSaid := Go.L1.reads_row fun ls b skip _ _ _ _ _ => Go.L1.reads_ok ls b skip
end Go.Proofs.Ytmgmbcniamkfeaa
