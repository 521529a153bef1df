/-
  No cell of these rows narrows 'for every input' (looked for: loops, veiled, ifaces, maps, wideKeys, modest, calm, conditions, laid).
  DERIVED. THE GIVEN ROWS OF THIS SEAT. 8 by the template 'for every input the law returns true; each argument reads behind the call as it read before'; 0 by the template 'total and deterministic' (their statements: YtkbpkbjfphdgeaaTotals.lean).
  GIVEN WITH THE SEED: the statements are not yours to turn. If you find one false, say at which input.
  Laid BY PROGRAM, IN A SANDBOX (cutbox-rows.mjs): the forced cells as the released guide's own fill.sh prints them over the translation 2014d549cf2d7f4d… (all of the seat's roots in one cut). By AI agents, Wed Nov 11 2026. No macro, syntax, notation, axiom, sorry.
-/
import Derived.Test.YtkbpkbjfphdgeaaChecked
import GoSem.Claim
import GoSem.ClaimJoined
import GoSem.ClaimMapViews
import Derived.JoinedTies
import Derived.KernelRfl
namespace Go.Proofs.Ytkbpkbjfphdgeaa
/- THE CELL 'sum', in the pinned program and in every row, IS THE sha256 OF THE DUMP (.gsa) THAT YtkbpkbjfphdgeaaProg.lean LOADS. Nothing in Lean hashes anything: it is a label: what it is worth is what the hold of that sum in a sandbox is worth. -/
noncomputable def Try.pinned : Pinned := { name := "ytkbpkbjfphdgeaa", sum := "2014d549cf2d7f4d5f026ccedf171d4e8b823c7e917bb193ba0c416e7d4954e3", checked := Try.checked }
namespace Rows
def none {H : Type} : Left H := { results := [], args := [] }

/-- 'metrolablaw08.HullFinds': WHATEVER THE INPUT: true; the input reads as it did. -/
def hullFindsSpec : ChangeSpec := { name := "hullFinds", fn := fun _ => fun
  | [d1, d2] => { results := [.lit (.bool true)], args := [d1, d2] }
  | _ => none }
def hullFindsRow : OpenClaim := { program := "ytkbpkbjfphdgeaa", sum := "2014d549cf2d7f4d5f026ccedf171d4e8b823c7e917bb193ba0c416e7d4954e3", func := "metrolab/metrolablaw08.HullFinds", spec := "hullFinds", unfollowed := true, recurses := true, apart := false }
def HullFindsSaid : Prop := hullFindsRow.holds Try.pinned (OpenSpec.ofChange hullFindsSpec)

/-- ITS FALSE NEIGHBOUR: 'it returns false'. Refute it at one input. -/
def hullFindsWrong : ChangeSpec := { name := "hullFinds", fn := fun _ => fun
  | [d1, d2] => { results := [.lit (.bool false)], args := [d1, d2] }
  | _ => none }
def HullFindsWrongFalsely : Prop := hullFindsRow.holds Try.pinned (OpenSpec.ofChange hullFindsWrong)

/-- 'metrolablaw08.HullFaces': WHATEVER THE INPUT: true; the input reads as it did. -/
def hullFacesSpec : ChangeSpec := { name := "hullFaces", fn := fun _ => fun
  | [d] => { results := [.lit (.bool true)], args := [d] }
  | _ => none }
def hullFacesRow : OpenClaim := { program := "ytkbpkbjfphdgeaa", sum := "2014d549cf2d7f4d5f026ccedf171d4e8b823c7e917bb193ba0c416e7d4954e3", func := "metrolab/metrolablaw08.HullFaces", spec := "hullFaces", unfollowed := true, recurses := true, apart := false }
def HullFacesSaid : Prop := hullFacesRow.holds Try.pinned (OpenSpec.ofChange hullFacesSpec)

/-- ITS FALSE NEIGHBOUR: 'it returns false'. Refute it at one input. -/
def hullFacesWrong : ChangeSpec := { name := "hullFaces", fn := fun _ => fun
  | [d] => { results := [.lit (.bool false)], args := [d] }
  | _ => none }
def HullFacesWrongFalsely : Prop := hullFacesRow.holds Try.pinned (OpenSpec.ofChange hullFacesWrong)

/-- 'metrolablaw08.HullSeparates': WHATEVER THE INPUT: true; the input reads as it did. -/
def hullSeparatesSpec : ChangeSpec := { name := "hullSeparates", fn := fun _ => fun
  | [d1, d2] => { results := [.lit (.bool true)], args := [d1, d2] }
  | _ => none }
def hullSeparatesRow : OpenClaim := { program := "ytkbpkbjfphdgeaa", sum := "2014d549cf2d7f4d5f026ccedf171d4e8b823c7e917bb193ba0c416e7d4954e3", func := "metrolab/metrolablaw08.HullSeparates", spec := "hullSeparates", unfollowed := true, recurses := true, apart := false }
def HullSeparatesSaid : Prop := hullSeparatesRow.holds Try.pinned (OpenSpec.ofChange hullSeparatesSpec)

/-- ITS FALSE NEIGHBOUR: 'it returns false'. Refute it at one input. -/
def hullSeparatesWrong : ChangeSpec := { name := "hullSeparates", fn := fun _ => fun
  | [d1, d2] => { results := [.lit (.bool false)], args := [d1, d2] }
  | _ => none }
def HullSeparatesWrongFalsely : Prop := hullSeparatesRow.holds Try.pinned (OpenSpec.ofChange hullSeparatesWrong)

/-- 'metrolablaw08.HullDivides': WHATEVER THE INPUT: true; the input reads as it did. -/
def hullDividesSpec : ChangeSpec := { name := "hullDivides", fn := fun _ => fun
  | [d1, d2] => { results := [.lit (.bool true)], args := [d1, d2] }
  | _ => none }
def hullDividesRow : OpenClaim := { program := "ytkbpkbjfphdgeaa", sum := "2014d549cf2d7f4d5f026ccedf171d4e8b823c7e917bb193ba0c416e7d4954e3", func := "metrolab/metrolablaw08.HullDivides", spec := "hullDivides", unfollowed := true, recurses := true, apart := false }
def HullDividesSaid : Prop := hullDividesRow.holds Try.pinned (OpenSpec.ofChange hullDividesSpec)

/-- ITS FALSE NEIGHBOUR: 'it returns false'. Refute it at one input. -/
def hullDividesWrong : ChangeSpec := { name := "hullDivides", fn := fun _ => fun
  | [d1, d2] => { results := [.lit (.bool false)], args := [d1, d2] }
  | _ => none }
def HullDividesWrongFalsely : Prop := hullDividesRow.holds Try.pinned (OpenSpec.ofChange hullDividesWrong)

/-- 'metrolablaw08.HullTurns': WHATEVER THE INPUT: true; the input reads as it did. -/
def hullTurnsSpec : ChangeSpec := { name := "hullTurns", fn := fun _ => fun
  | [d] => { results := [.lit (.bool true)], args := [d] }
  | _ => none }
def hullTurnsRow : OpenClaim := { program := "ytkbpkbjfphdgeaa", sum := "2014d549cf2d7f4d5f026ccedf171d4e8b823c7e917bb193ba0c416e7d4954e3", func := "metrolab/metrolablaw08.HullTurns", spec := "hullTurns", unfollowed := true, recurses := true, apart := false }
def HullTurnsSaid : Prop := hullTurnsRow.holds Try.pinned (OpenSpec.ofChange hullTurnsSpec)

/-- ITS FALSE NEIGHBOUR: 'it returns false'. Refute it at one input. -/
def hullTurnsWrong : ChangeSpec := { name := "hullTurns", fn := fun _ => fun
  | [d] => { results := [.lit (.bool false)], args := [d] }
  | _ => none }
def HullTurnsWrongFalsely : Prop := hullTurnsRow.holds Try.pinned (OpenSpec.ofChange hullTurnsWrong)

/-- 'metrolablaw08.HullKeeps': WHATEVER THE INPUT: true; the input reads as it did. -/
def hullKeepsSpec : ChangeSpec := { name := "hullKeeps", fn := fun _ => fun
  | [d1, d2] => { results := [.lit (.bool true)], args := [d1, d2] }
  | _ => none }
def hullKeepsRow : OpenClaim := { program := "ytkbpkbjfphdgeaa", sum := "2014d549cf2d7f4d5f026ccedf171d4e8b823c7e917bb193ba0c416e7d4954e3", func := "metrolab/metrolablaw08.HullKeeps", spec := "hullKeeps", unfollowed := true, recurses := true, apart := false }
def HullKeepsSaid : Prop := hullKeepsRow.holds Try.pinned (OpenSpec.ofChange hullKeepsSpec)

/-- ITS FALSE NEIGHBOUR: 'it returns false'. Refute it at one input. -/
def hullKeepsWrong : ChangeSpec := { name := "hullKeeps", fn := fun _ => fun
  | [d1, d2] => { results := [.lit (.bool false)], args := [d1, d2] }
  | _ => none }
def HullKeepsWrongFalsely : Prop := hullKeepsRow.holds Try.pinned (OpenSpec.ofChange hullKeepsWrong)

/-- 'metrolablaw08.HullFarthest': WHATEVER THE INPUT: true; the input reads as it did. -/
def hullFarthestSpec : ChangeSpec := { name := "hullFarthest", fn := fun _ => fun
  | [d] => { results := [.lit (.bool true)], args := [d] }
  | _ => none }
def hullFarthestRow : OpenClaim := { program := "ytkbpkbjfphdgeaa", sum := "2014d549cf2d7f4d5f026ccedf171d4e8b823c7e917bb193ba0c416e7d4954e3", func := "metrolab/metrolablaw08.HullFarthest", spec := "hullFarthest", unfollowed := true, recurses := true, apart := false }
def HullFarthestSaid : Prop := hullFarthestRow.holds Try.pinned (OpenSpec.ofChange hullFarthestSpec)

/-- ITS FALSE NEIGHBOUR: 'it returns false'. Refute it at one input. -/
def hullFarthestWrong : ChangeSpec := { name := "hullFarthest", fn := fun _ => fun
  | [d] => { results := [.lit (.bool false)], args := [d] }
  | _ => none }
def HullFarthestWrongFalsely : Prop := hullFarthestRow.holds Try.pinned (OpenSpec.ofChange hullFarthestWrong)

/-- 'metrolablaw08.HullMeasures': WHATEVER THE INPUT: true; the input reads as it did. -/
def hullMeasuresSpec : ChangeSpec := { name := "hullMeasures", fn := fun _ => fun
  | [d] => { results := [.lit (.bool true)], args := [d] }
  | _ => none }
def hullMeasuresRow : OpenClaim := { program := "ytkbpkbjfphdgeaa", sum := "2014d549cf2d7f4d5f026ccedf171d4e8b823c7e917bb193ba0c416e7d4954e3", func := "metrolab/metrolablaw08.HullMeasures", spec := "hullMeasures", unfollowed := true, recurses := true, apart := false }
def HullMeasuresSaid : Prop := hullMeasuresRow.holds Try.pinned (OpenSpec.ofChange hullMeasuresSpec)

/-- ITS FALSE NEIGHBOUR: 'it returns false'. Refute it at one input. -/
def hullMeasuresWrong : ChangeSpec := { name := "hullMeasures", fn := fun _ => fun
  | [d] => { results := [.lit (.bool false)], args := [d] }
  | _ => none }
def HullMeasuresWrongFalsely : Prop := hullMeasuresRow.holds Try.pinned (OpenSpec.ofChange hullMeasuresWrong)

/- THE SECOND FORM. 'bulk': how many values and letters a reading holds, each counted each time it is reached (what is shared counts as often as it is met; a slice's spare places count too). A statement '..UptoSaid' is the law's where the arguments, and the package variables that the reading takes, are together of bulk at most 1048576: NARROWER than '..Said'. Prove '..Said' where nothing that the law and all that it calls make is longer than what came in: it says more and counts as full. Else prove '..UptoSaid'. A law counts once. -/
mutual
def uptoBulk {H : Type} : DataW H → Nat
  | .lit (.string bytes) => bytes.length + 1
  | .lit _ => 1
  | .nil => 1
  | .ptr d => uptoBulk d + 1
  | .slice elems spare => uptoBulkAll elems + uptoBulkAll spare + 1
  | .agg parts => uptoBulkAll parts + 1
  | .iface _ d => uptoBulk d + 1
  | .map entries => uptoBulkEntries entries + 1
  | .held _ => 1
def uptoBulkAll {H : Type} : List (DataW H) → Nat
  | [] => 0
  | d :: r => uptoBulk d + uptoBulkAll r
def uptoBulkEntries {H : Type} : List (Lit × DataW H) → Nat
  | [] => 0
  | x :: r => uptoBulkEntry x + uptoBulkEntries r
def uptoBulkEntry {H : Type} : Lit × DataW H → Nat
  | (.string bytes, d) => bytes.length + uptoBulk d + 1
  | (_, d) => uptoBulk d + 1
 end
def uptoSmall : (H : Type) → List (DataW H) → Bool := fun _ ds => decide (uptoBulkAll ds ≤ 1048576)
def OpenSpec.upto (s : _root_.Go.ChangeSpec) : _root_.Go.OpenSpec := { _root_.Go.OpenSpec.ofChange s with cond := some uptoSmall }

/-- 'metrolablaw08.HullFinds', WHERE WHAT IT READS IS OF BULK AT MOST 1048576: true; the input reads as it did. -/
def hullFindsUptoRow : OpenClaim := { program := "ytkbpkbjfphdgeaa", sum := "2014d549cf2d7f4d5f026ccedf171d4e8b823c7e917bb193ba0c416e7d4954e3", func := "metrolab/metrolablaw08.HullFinds", spec := "hullFinds", unfollowed := true, recurses := true, apart := false, narrowed := true }
def HullFindsUptoSaid : Prop := hullFindsUptoRow.holds Try.pinned (OpenSpec.upto hullFindsSpec)

/-- 'metrolablaw08.HullFaces', WHERE WHAT IT READS IS OF BULK AT MOST 1048576: true; the input reads as it did. -/
def hullFacesUptoRow : OpenClaim := { program := "ytkbpkbjfphdgeaa", sum := "2014d549cf2d7f4d5f026ccedf171d4e8b823c7e917bb193ba0c416e7d4954e3", func := "metrolab/metrolablaw08.HullFaces", spec := "hullFaces", unfollowed := true, recurses := true, apart := false, narrowed := true }
def HullFacesUptoSaid : Prop := hullFacesUptoRow.holds Try.pinned (OpenSpec.upto hullFacesSpec)

/-- 'metrolablaw08.HullSeparates', WHERE WHAT IT READS IS OF BULK AT MOST 1048576: true; the input reads as it did. -/
def hullSeparatesUptoRow : OpenClaim := { program := "ytkbpkbjfphdgeaa", sum := "2014d549cf2d7f4d5f026ccedf171d4e8b823c7e917bb193ba0c416e7d4954e3", func := "metrolab/metrolablaw08.HullSeparates", spec := "hullSeparates", unfollowed := true, recurses := true, apart := false, narrowed := true }
def HullSeparatesUptoSaid : Prop := hullSeparatesUptoRow.holds Try.pinned (OpenSpec.upto hullSeparatesSpec)

/-- 'metrolablaw08.HullDivides', WHERE WHAT IT READS IS OF BULK AT MOST 1048576: true; the input reads as it did. -/
def hullDividesUptoRow : OpenClaim := { program := "ytkbpkbjfphdgeaa", sum := "2014d549cf2d7f4d5f026ccedf171d4e8b823c7e917bb193ba0c416e7d4954e3", func := "metrolab/metrolablaw08.HullDivides", spec := "hullDivides", unfollowed := true, recurses := true, apart := false, narrowed := true }
def HullDividesUptoSaid : Prop := hullDividesUptoRow.holds Try.pinned (OpenSpec.upto hullDividesSpec)

/-- 'metrolablaw08.HullTurns', WHERE WHAT IT READS IS OF BULK AT MOST 1048576: true; the input reads as it did. -/
def hullTurnsUptoRow : OpenClaim := { program := "ytkbpkbjfphdgeaa", sum := "2014d549cf2d7f4d5f026ccedf171d4e8b823c7e917bb193ba0c416e7d4954e3", func := "metrolab/metrolablaw08.HullTurns", spec := "hullTurns", unfollowed := true, recurses := true, apart := false, narrowed := true }
def HullTurnsUptoSaid : Prop := hullTurnsUptoRow.holds Try.pinned (OpenSpec.upto hullTurnsSpec)

/-- 'metrolablaw08.HullKeeps', WHERE WHAT IT READS IS OF BULK AT MOST 1048576: true; the input reads as it did. -/
def hullKeepsUptoRow : OpenClaim := { program := "ytkbpkbjfphdgeaa", sum := "2014d549cf2d7f4d5f026ccedf171d4e8b823c7e917bb193ba0c416e7d4954e3", func := "metrolab/metrolablaw08.HullKeeps", spec := "hullKeeps", unfollowed := true, recurses := true, apart := false, narrowed := true }
def HullKeepsUptoSaid : Prop := hullKeepsUptoRow.holds Try.pinned (OpenSpec.upto hullKeepsSpec)

/-- 'metrolablaw08.HullFarthest', WHERE WHAT IT READS IS OF BULK AT MOST 1048576: true; the input reads as it did. -/
def hullFarthestUptoRow : OpenClaim := { program := "ytkbpkbjfphdgeaa", sum := "2014d549cf2d7f4d5f026ccedf171d4e8b823c7e917bb193ba0c416e7d4954e3", func := "metrolab/metrolablaw08.HullFarthest", spec := "hullFarthest", unfollowed := true, recurses := true, apart := false, narrowed := true }
def HullFarthestUptoSaid : Prop := hullFarthestUptoRow.holds Try.pinned (OpenSpec.upto hullFarthestSpec)

/-- 'metrolablaw08.HullMeasures', WHERE WHAT IT READS IS OF BULK AT MOST 1048576: true; the input reads as it did. -/
def hullMeasuresUptoRow : OpenClaim := { program := "ytkbpkbjfphdgeaa", sum := "2014d549cf2d7f4d5f026ccedf171d4e8b823c7e917bb193ba0c416e7d4954e3", func := "metrolab/metrolablaw08.HullMeasures", spec := "hullMeasures", unfollowed := true, recurses := true, apart := false, narrowed := true }
def HullMeasuresUptoSaid : Prop := hullMeasuresUptoRow.holds Try.pinned (OpenSpec.upto hullMeasuresSpec)

end Rows
end Go.Proofs.Ytkbpkbjfphdgeaa
