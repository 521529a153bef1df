/- The law HullMeasures holds: Farthest, Area and Convex return what the reference returns, or its errors, for all points.
   Conditions: none beyond the statement's own. -/
import Derived.Test.YtkbpkbjfphdgeaaPart15
namespace Go.Proofs.Ytkbpkbjfphdgeaa
theorem hullMeasures_holds : Rows.HullMeasuresSaid := Go.Hull.Measures.over Go.Hull.law10
end Go.Proofs.Ytkbpkbjfphdgeaa
