/- The law HullFinds holds: Hull, Locate and Extreme return what the reference returns, or its errors, for all points and directions.
   Conditions: none beyond the statement's own. -/
import Derived.Test.YtkbpkbjfphdgeaaPart16
namespace Go.Proofs.Ytkbpkbjfphdgeaa
theorem hullFinds_holds : Rows.HullFindsSaid := Go.Hull.Finds.over Go.Hull.c3
end Go.Proofs.Ytkbpkbjfphdgeaa
