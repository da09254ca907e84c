/- The law InflateTables answers true for every input: Length, Distance and Fixed tell what the document's tell. No condition beyond the statement's own. -/
import Derived.Test.YtmgmbcniamkfeaaRB
import Derived.Test.YtmgmbcniamkfeaaLK
namespace Go.Proofs.Ytmgmbcniamkfeaa
theorem inflateTables_holds : Rows.InflateTablesSaid := Go.L1.itables_row fun s _ => Go.L1.tables_ok s
end Go.Proofs.Ytmgmbcniamkfeaa
