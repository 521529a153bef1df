/- The law HullKeeps holds: the hull of the vertices alone has all of them, moved points have the moved hull, and all points are located in it.
   Conditions: none beyond the statement's own. -/
import Derived.Test.YtkbpkbjfphdgeaaPart14
namespace Go.Proofs.Ytkbpkbjfphdgeaa
theorem hullKeeps_holds : Rows.HullKeepsSaid := Go.Hull.Keeps.over Go.Hull.c8
end Go.Proofs.Ytkbpkbjfphdgeaa
