/- The law HullFarthest holds: some antipodal pair has the greatest distance, and both ends of a side are antipodal to a vertex that is farthest from it.
   Conditions: none beyond the statement's own. -/
import Derived.Test.YtkbpkbjfphdgeaaPart15
namespace Go.Proofs.Ytkbpkbjfphdgeaa
theorem hullFarthest_holds : Rows.HullFarthestSaid := Go.Hull.Farthest.over Go.Hull.law9
end Go.Proofs.Ytkbpkbjfphdgeaa
