/- The law HullTurns holds: for all points, the hull that the program finds has all points on the left of its sides, turns left at its vertices, and starts at the least point.
   Conditions: none beyond the statement's own. -/
import Derived.Test.YtkbpkbjfphdgeaaHLawTurns
import Derived.Test.YtkbpkbjfphdgeaaHM6
namespace Go.Proofs.Ytkbpkbjfphdgeaa
theorem hullTurns_holds : Rows.HullTurnsSaid := Go.Hull.Turns.over Go.Hull.contract7
end Go.Proofs.Ytkbpkbjfphdgeaa
