/- The law HullFaces holds: Antipodal returns the reference's pairs, or its error, for all points.
   Conditions: none beyond the statement's own. -/
import Derived.Test.YtkbpkbjfphdgeaaPart15
namespace Go.Proofs.Ytkbpkbjfphdgeaa
theorem hullFaces_holds : Rows.HullFacesSaid := Go.Hull.Faces.over Go.Hull.law4
end Go.Proofs.Ytkbpkbjfphdgeaa
