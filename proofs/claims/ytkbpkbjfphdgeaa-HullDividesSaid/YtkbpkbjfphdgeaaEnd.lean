/- The law HullDivides holds: a direction that is returned separates; if none is, the hulls have a point in common.
   Conditions: none beyond the statement's own. -/
import Derived.Test.YtkbpkbjfphdgeaaPart13
namespace Go.Proofs.Ytkbpkbjfphdgeaa
theorem hullDivides_holds : Rows.HullDividesSaid := Go.Hull.Divides.over Go.Hull.law6
end Go.Proofs.Ytkbpkbjfphdgeaa
