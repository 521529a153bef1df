/- The law HullSeparates holds: Separated returns the result of the reference, or its error, for all pairs of lists of points.
   Conditions: none beyond the statement's own. -/
import Derived.Test.YtkbpkbjfphdgeaaPart13
namespace Go.Proofs.Ytkbpkbjfphdgeaa
theorem hullSeparates_holds : Rows.HullSeparatesSaid := Go.Hull.Separates.over Go.Hull.c5
end Go.Proofs.Ytkbpkbjfphdgeaa
