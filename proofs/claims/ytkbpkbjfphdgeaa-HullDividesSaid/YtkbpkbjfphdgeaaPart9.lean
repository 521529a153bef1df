/- Points in range: walks.
   Conditions: none. -/
import Derived.Test.YtkbpkbjfphdgeaaRows
import Derived.WalkKit
import Derived.ProofKit
import Derived.OpenShut
import Derived.ShutString
import Derived.ChangeOld
import Derived.Below
import Derived.SizedLaws
import Derived.ChangeSlices
import Derived.Test.YtkbpkbjfphdgeaaPart8
section
set_option linter.unusedSimpArgs false
set_option linter.unusedVariables false
namespace Go.Hull
open Go Go.Am Go.Proofs

abbrev Pt := Int × Int
def pt (p : Pt) : AV := .agg [.int .i64 p.1, .int .i64 p.2]
def pts (l : List Pt) : AV := .sv false 2 (l.map pt)
def ok1 (n : Int) : Bool := decide (-100000 ≤ n) && decide (n ≤ 100000)
def okP (p : Pt) : Bool := ok1 p.1 && ok1 p.2
def chk (l : List Pt) : Int := if 64 < l.length then 5 else if l.all okP = true then 0 else 2
theorem flat_pts (l : List Pt) (n : Nat) : flatN true (n + 3) (pts l) = true := by
  simp only [pts, flatN]
  induction l with
  | nil => rfl
  | cons p l ih => simp only [List.map_cons, allB, pt, flatN]; exact ih
theorem lt_pt (p : Pt) (m : Nat) : (pt p).lt m = true := rfl
theorem ltL_pt (l : List Pt) (m : Nat) : ltL m (l.map pt) = true := by
  induction l with
  | nil => rfl
  | cons p l ih => simp only [List.map_cons, ltL, lt_pt, ih, Bool.and_self]
theorem lt_pts (l : List Pt) (m : Nat) : (pts l).lt m = true := by simp only [pts, AV.lt, ltL_pt]
theorem wrap_nat (i : Nat) (h : i < 4611686018427387904) : IntKind.i64.wrap ((i : Int) + 1) = ((i + 1 : Nat) : Int) := by
  rw [IntWalk.i64_in]
  · omega
  · omega
theorem get_pts {l : List Pt} {i : Nat} {p : Pt} (h : l[i]? = some p) : (l.map pt)[i]? = some (pt p) := by simp [h]
theorem c91 (n : Int) : CallsF Try.prog 91 [.int .i64 n] [] (.bool (ok1 n)) [] := by
  refine callsF_cw hm hf91 (by simp [cf91]) ?_
  simp only [cf91, argsAl]
  by_cases h1 : -100000 ≤ n
  · refine CW.rI fun K hK => ?_
    simp (maxSteps := 4000000) only [amC, amR, setO, Am.set, dr3, dr4, AV.elem, AV.cells, AV.one, loadAV, faddrAV, binAV, storeAV, AV.putCells, AV.ref, if_true, if_false, Nat.reduceEqDiff, Nat.reduceAdd, Nat.reduceLT, Nat.reduceLeDiff, reduceCtorEq, ↓reduceIte, pickAV, lenAV, intAV, slcA, slcAV, iaddrAV, extAV, fldAV, eqCell, contAV, appendAV, maxI, minI, Option.some.injEq, catT]
    refine hK _ _ nofun ?_
    clear hK K
    refine CW.rI fun K hK => ?_
    simp (maxSteps := 4000000) only [amC, amR, setO, Am.set, dr3, dr4, AV.elem, AV.cells, AV.one, loadAV, faddrAV, binAV, storeAV, AV.putCells, AV.ref, if_true, if_false, Nat.reduceEqDiff, Nat.reduceAdd, Nat.reduceLT, Nat.reduceLeDiff, reduceCtorEq, ↓reduceIte, pickAV, lenAV, intAV, slcA, slcAV, iaddrAV, extAV, fldAV, eqCell, contAV, appendAV, maxI, minI, Option.some.injEq, catT, h1]
    refine hK _ _ nofun ?_
    clear hK K
    exact CW.ret (finK_pure (.inr rfl) (xs := [.bool (ok1 n)]) (by simp [resRV, Am.get, ok1, h1]) rfl rfl)
  · refine CW.rI fun K hK => ?_
    simp (maxSteps := 4000000) only [amC, amR, setO, Am.set, dr3, dr4, AV.elem, AV.cells, AV.one, loadAV, faddrAV, binAV, storeAV, AV.putCells, AV.ref, if_true, if_false, Nat.reduceEqDiff, Nat.reduceAdd, Nat.reduceLT, Nat.reduceLeDiff, reduceCtorEq, ↓reduceIte, pickAV, lenAV, intAV, slcA, slcAV, iaddrAV, extAV, fldAV, eqCell, contAV, appendAV, maxI, minI, Option.some.injEq, catT]
    refine hK _ _ nofun ?_
    clear hK K
    refine CW.rI fun K hK => ?_
    simp (maxSteps := 4000000) only [amC, amR, setO, Am.set, dr3, dr4, AV.elem, AV.cells, AV.one, loadAV, faddrAV, binAV, storeAV, AV.putCells, AV.ref, if_true, if_false, Nat.reduceEqDiff, Nat.reduceAdd, Nat.reduceLT, Nat.reduceLeDiff, reduceCtorEq, ↓reduceIte, pickAV, lenAV, intAV, slcA, slcAV, iaddrAV, extAV, fldAV, eqCell, contAV, appendAV, maxI, minI, Option.some.injEq, catT, h1]
    refine hK _ _ nofun ?_
    clear hK K
    exact CW.ret (finK_pure (.inr rfl) (xs := [.bool (ok1 n)]) (by simp [resRV, Am.get, ok1, h1]) rfl rfl)
theorem c103 (n : Int) : CallsF Try.prog 103 [.int .i64 n] [] (.bool (ok1 n)) [] := by
  refine callsF_cw hm hf103 (by simp [cf103]) ?_
  simp only [cf103, argsAl]
  by_cases h1 : -100000 ≤ n
  · refine CW.rI fun K hK => ?_
    simp (maxSteps := 4000000) only [amC, amR, setO, Am.set, dr3, dr4, AV.elem, AV.cells, AV.one, loadAV, faddrAV, binAV, storeAV, AV.putCells, AV.ref, if_true, if_false, Nat.reduceEqDiff, Nat.reduceAdd, Nat.reduceLT, Nat.reduceLeDiff, reduceCtorEq, ↓reduceIte, pickAV, lenAV, intAV, slcA, slcAV, iaddrAV, extAV, fldAV, eqCell, contAV, appendAV, maxI, minI, Option.some.injEq, catT]
    refine hK _ _ nofun ?_
    clear hK K
    refine CW.rI fun K hK => ?_
    simp (maxSteps := 4000000) only [amC, amR, setO, Am.set, dr3, dr4, AV.elem, AV.cells, AV.one, loadAV, faddrAV, binAV, storeAV, AV.putCells, AV.ref, if_true, if_false, Nat.reduceEqDiff, Nat.reduceAdd, Nat.reduceLT, Nat.reduceLeDiff, reduceCtorEq, ↓reduceIte, pickAV, lenAV, intAV, slcA, slcAV, iaddrAV, extAV, fldAV, eqCell, contAV, appendAV, maxI, minI, Option.some.injEq, catT, h1]
    refine hK _ _ nofun ?_
    clear hK K
    exact CW.ret (finK_pure (.inr rfl) (xs := [.bool (ok1 n)]) (by simp [resRV, Am.get, ok1, h1]) rfl rfl)
  · refine CW.rI fun K hK => ?_
    simp (maxSteps := 4000000) only [amC, amR, setO, Am.set, dr3, dr4, AV.elem, AV.cells, AV.one, loadAV, faddrAV, binAV, storeAV, AV.putCells, AV.ref, if_true, if_false, Nat.reduceEqDiff, Nat.reduceAdd, Nat.reduceLT, Nat.reduceLeDiff, reduceCtorEq, ↓reduceIte, pickAV, lenAV, intAV, slcA, slcAV, iaddrAV, extAV, fldAV, eqCell, contAV, appendAV, maxI, minI, Option.some.injEq, catT]
    refine hK _ _ nofun ?_
    clear hK K
    refine CW.rI fun K hK => ?_
    simp (maxSteps := 4000000) only [amC, amR, setO, Am.set, dr3, dr4, AV.elem, AV.cells, AV.one, loadAV, faddrAV, binAV, storeAV, AV.putCells, AV.ref, if_true, if_false, Nat.reduceEqDiff, Nat.reduceAdd, Nat.reduceLT, Nat.reduceLeDiff, reduceCtorEq, ↓reduceIte, pickAV, lenAV, intAV, slcA, slcAV, iaddrAV, extAV, fldAV, eqCell, contAV, appendAV, maxI, minI, Option.some.injEq, catT, h1]
    refine hK _ _ nofun ?_
    clear hK K
    exact CW.ret (finK_pure (.inr rfl) (xs := [.bool (ok1 n)]) (by simp [resRV, Am.get, ok1, h1]) rfl rfl)
theorem c59 (p : Pt) : CallsF Try.prog 59 [pt p] [] (.bool (okP p)) [] := by
  refine callsF_cw hm hf59 (by simp [cf59]) ?_
  simp only [cf59, argsAl]
  unfold pt
  by_cases h1 : ok1 p.1 = true
  · refine CW.rI fun K hK => ?_
    simp (maxSteps := 4000000) only [amC, amR, setO, Am.set, dr3, dr4, AV.elem, AV.cells, AV.one, loadAV, faddrAV, binAV, storeAV, AV.putCells, AV.ref, if_true, if_false, Nat.reduceEqDiff, Nat.reduceAdd, Nat.reduceLT, Nat.reduceLeDiff, reduceCtorEq, ↓reduceIte, pickAV, lenAV, intAV, slcA, slcAV, iaddrAV, extAV, fldAV, eqCell, contAV, appendAV, maxI, minI, Option.some.injEq, catT]
    refine hK _ _ nofun ?_
    clear hK K
    refine CW.rI fun K hK => ?_
    simp (maxSteps := 4000000) only [amC, amR, setO, Am.set, dr3, dr4, AV.elem, AV.cells, AV.one, loadAV, faddrAV, binAV, storeAV, AV.putCells, AV.ref, if_true, if_false, Nat.reduceEqDiff, Nat.reduceAdd, Nat.reduceLT, Nat.reduceLeDiff, reduceCtorEq, ↓reduceIte, pickAV, lenAV, intAV, slcA, slcAV, iaddrAV, extAV, fldAV, eqCell, contAV, appendAV, maxI, minI, Option.some.injEq, catT]
    refine RunCall.view (fid := 91) (caps := []) rfl rfl rfl (c91 p.1) rfl ?_
    simp (maxSteps := 4000000) only [amC, amR, setO, Am.set, dr3, dr4, AV.elem, AV.cells, AV.one, loadAV, faddrAV, binAV, storeAV, AV.putCells, AV.ref, if_true, if_false, Nat.reduceEqDiff, Nat.reduceAdd, Nat.reduceLT, Nat.reduceLeDiff, reduceCtorEq, ↓reduceIte, pickAV, lenAV, intAV, slcA, slcAV, iaddrAV, extAV, fldAV, eqCell, contAV, appendAV, maxI, minI, Option.some.injEq, catT, h1]
    refine RunCall.view (fid := 91) (caps := []) rfl rfl rfl (c91 p.2) rfl ?_
    simp (maxSteps := 4000000) only [amC, amR, setO, Am.set, dr3, dr4, AV.elem, AV.cells, AV.one, loadAV, faddrAV, binAV, storeAV, AV.putCells, AV.ref, if_true, if_false, Nat.reduceEqDiff, Nat.reduceAdd, Nat.reduceLT, Nat.reduceLeDiff, reduceCtorEq, ↓reduceIte, pickAV, lenAV, intAV, slcA, slcAV, iaddrAV, extAV, fldAV, eqCell, contAV, appendAV, maxI, minI, Option.some.injEq, catT]
    refine hK _ _ nofun ?_
    clear hK K
    exact CW.ret (finK_pure (.inr rfl) (xs := [.bool (okP p)]) (by simp [resRV, Am.get, okP, h1]) rfl rfl)
  · refine CW.rI fun K hK => ?_
    simp (maxSteps := 4000000) only [amC, amR, setO, Am.set, dr3, dr4, AV.elem, AV.cells, AV.one, loadAV, faddrAV, binAV, storeAV, AV.putCells, AV.ref, if_true, if_false, Nat.reduceEqDiff, Nat.reduceAdd, Nat.reduceLT, Nat.reduceLeDiff, reduceCtorEq, ↓reduceIte, pickAV, lenAV, intAV, slcA, slcAV, iaddrAV, extAV, fldAV, eqCell, contAV, appendAV, maxI, minI, Option.some.injEq, catT]
    refine hK _ _ nofun ?_
    clear hK K
    refine CW.rI fun K hK => ?_
    simp (maxSteps := 4000000) only [amC, amR, setO, Am.set, dr3, dr4, AV.elem, AV.cells, AV.one, loadAV, faddrAV, binAV, storeAV, AV.putCells, AV.ref, if_true, if_false, Nat.reduceEqDiff, Nat.reduceAdd, Nat.reduceLT, Nat.reduceLeDiff, reduceCtorEq, ↓reduceIte, pickAV, lenAV, intAV, slcA, slcAV, iaddrAV, extAV, fldAV, eqCell, contAV, appendAV, maxI, minI, Option.some.injEq, catT]
    refine RunCall.view (fid := 91) (caps := []) rfl rfl rfl (c91 p.1) rfl ?_
    simp (maxSteps := 4000000) only [amC, amR, setO, Am.set, dr3, dr4, AV.elem, AV.cells, AV.one, loadAV, faddrAV, binAV, storeAV, AV.putCells, AV.ref, if_true, if_false, Nat.reduceEqDiff, Nat.reduceAdd, Nat.reduceLT, Nat.reduceLeDiff, reduceCtorEq, ↓reduceIte, pickAV, lenAV, intAV, slcA, slcAV, iaddrAV, extAV, fldAV, eqCell, contAV, appendAV, maxI, minI, Option.some.injEq, catT, h1]
    refine hK _ _ nofun ?_
    clear hK K
    exact CW.ret (finK_pure (.inr rfl) (xs := [.bool (okP p)]) (by simp [resRV, Am.get, okP, h1]) rfl rfl)
theorem c82 (p : Pt) : CallsF Try.prog 82 [pt p] [] (.bool (okP p)) [] := by
  refine callsF_cw hm hf82 (by simp [cf82]) ?_
  simp only [cf82, argsAl]
  unfold pt
  by_cases h1 : ok1 p.1 = true
  · refine CW.rI fun K hK => ?_
    simp (maxSteps := 4000000) only [amC, amR, setO, Am.set, dr3, dr4, AV.elem, AV.cells, AV.one, loadAV, faddrAV, binAV, storeAV, AV.putCells, AV.ref, if_true, if_false, Nat.reduceEqDiff, Nat.reduceAdd, Nat.reduceLT, Nat.reduceLeDiff, reduceCtorEq, ↓reduceIte, pickAV, lenAV, intAV, slcA, slcAV, iaddrAV, extAV, fldAV, eqCell, contAV, appendAV, maxI, minI, Option.some.injEq, catT]
    refine hK _ _ nofun ?_
    clear hK K
    refine CW.rI fun K hK => ?_
    simp (maxSteps := 4000000) only [amC, amR, setO, Am.set, dr3, dr4, AV.elem, AV.cells, AV.one, loadAV, faddrAV, binAV, storeAV, AV.putCells, AV.ref, if_true, if_false, Nat.reduceEqDiff, Nat.reduceAdd, Nat.reduceLT, Nat.reduceLeDiff, reduceCtorEq, ↓reduceIte, pickAV, lenAV, intAV, slcA, slcAV, iaddrAV, extAV, fldAV, eqCell, contAV, appendAV, maxI, minI, Option.some.injEq, catT]
    refine RunCall.view (fid := 103) (caps := []) rfl rfl rfl (c103 p.1) rfl ?_
    simp (maxSteps := 4000000) only [amC, amR, setO, Am.set, dr3, dr4, AV.elem, AV.cells, AV.one, loadAV, faddrAV, binAV, storeAV, AV.putCells, AV.ref, if_true, if_false, Nat.reduceEqDiff, Nat.reduceAdd, Nat.reduceLT, Nat.reduceLeDiff, reduceCtorEq, ↓reduceIte, pickAV, lenAV, intAV, slcA, slcAV, iaddrAV, extAV, fldAV, eqCell, contAV, appendAV, maxI, minI, Option.some.injEq, catT, h1]
    refine RunCall.view (fid := 103) (caps := []) rfl rfl rfl (c103 p.2) rfl ?_
    simp (maxSteps := 4000000) only [amC, amR, setO, Am.set, dr3, dr4, AV.elem, AV.cells, AV.one, loadAV, faddrAV, binAV, storeAV, AV.putCells, AV.ref, if_true, if_false, Nat.reduceEqDiff, Nat.reduceAdd, Nat.reduceLT, Nat.reduceLeDiff, reduceCtorEq, ↓reduceIte, pickAV, lenAV, intAV, slcA, slcAV, iaddrAV, extAV, fldAV, eqCell, contAV, appendAV, maxI, minI, Option.some.injEq, catT]
    refine hK _ _ nofun ?_
    clear hK K
    exact CW.ret (finK_pure (.inr rfl) (xs := [.bool (okP p)]) (by simp [resRV, Am.get, okP, h1]) rfl rfl)
  · refine CW.rI fun K hK => ?_
    simp (maxSteps := 4000000) only [amC, amR, setO, Am.set, dr3, dr4, AV.elem, AV.cells, AV.one, loadAV, faddrAV, binAV, storeAV, AV.putCells, AV.ref, if_true, if_false, Nat.reduceEqDiff, Nat.reduceAdd, Nat.reduceLT, Nat.reduceLeDiff, reduceCtorEq, ↓reduceIte, pickAV, lenAV, intAV, slcA, slcAV, iaddrAV, extAV, fldAV, eqCell, contAV, appendAV, maxI, minI, Option.some.injEq, catT]
    refine hK _ _ nofun ?_
    clear hK K
    refine CW.rI fun K hK => ?_
    simp (maxSteps := 4000000) only [amC, amR, setO, Am.set, dr3, dr4, AV.elem, AV.cells, AV.one, loadAV, faddrAV, binAV, storeAV, AV.putCells, AV.ref, if_true, if_false, Nat.reduceEqDiff, Nat.reduceAdd, Nat.reduceLT, Nat.reduceLeDiff, reduceCtorEq, ↓reduceIte, pickAV, lenAV, intAV, slcA, slcAV, iaddrAV, extAV, fldAV, eqCell, contAV, appendAV, maxI, minI, Option.some.injEq, catT]
    refine RunCall.view (fid := 103) (caps := []) rfl rfl rfl (c103 p.1) rfl ?_
    simp (maxSteps := 4000000) only [amC, amR, setO, Am.set, dr3, dr4, AV.elem, AV.cells, AV.one, loadAV, faddrAV, binAV, storeAV, AV.putCells, AV.ref, if_true, if_false, Nat.reduceEqDiff, Nat.reduceAdd, Nat.reduceLT, Nat.reduceLeDiff, reduceCtorEq, ↓reduceIte, pickAV, lenAV, intAV, slcA, slcAV, iaddrAV, extAV, fldAV, eqCell, contAV, appendAV, maxI, minI, Option.some.injEq, catT, h1]
    refine hK _ _ nofun ?_
    clear hK K
    exact CW.ret (finK_pure (.inr rfl) (xs := [.bool (okP p)]) (by simp [resRV, Am.get, okP, h1]) rfl rfl)
theorem c58 (l : List Pt) (hl : l.length < 4611686018427387904) : CallsF Try.prog 58 [pts l] [] (.int .i64 (chk l)) [] := by
  refine callsF_cw hm hf58 (by simp [cf58]) ?_
  simp only [cf58, argsAl]
  by_cases h1 : (64 : Int) < (l.length : Int)
  · have hc : chk l = 5 := by unfold chk; rw [if_pos (by omega)]
    refine CW.rI fun K hK => ?_
    simp (maxSteps := 4000000) only [amC, amR, setO, Am.set, dr3, dr4, AV.elem, AV.cells, AV.one, loadAV, faddrAV, binAV, storeAV, AV.putCells, AV.ref, if_true, if_false, Nat.reduceEqDiff, Nat.reduceAdd, Nat.reduceLT, Nat.reduceLeDiff, reduceCtorEq, ↓reduceIte, pickAV, lenAV, intAV, slcA, slcAV, iaddrAV, extAV, fldAV, eqCell, contAV, appendAV, maxI, minI, Option.some.injEq, catT]
    refine hK _ _ nofun ?_
    clear hK K
    refine CW.seq ?_
    unfold pts
    refine CW.rI fun K hK => ?_
    simp (maxSteps := 4000000) only [amC, amR, setO, Am.set, dr3, dr4, AV.elem, AV.cells, AV.one, loadAV, faddrAV, binAV, storeAV, AV.putCells, AV.ref, if_true, if_false, Nat.reduceEqDiff, Nat.reduceAdd, Nat.reduceLT, Nat.reduceLeDiff, reduceCtorEq, ↓reduceIte, pickAV, lenAV, intAV, slcA, slcAV, iaddrAV, extAV, fldAV, eqCell, contAV, appendAV, maxI, minI, Option.some.injEq, catT, List.length_map, h1]
    refine hK _ _ nofun ?_
    clear hK K
    refine CW.condT rfl ?_
    refine CW.rI fun K hK => ?_
    simp (maxSteps := 4000000) only [amC, amR, setO, Am.set, dr3, dr4, AV.elem, AV.cells, AV.one, loadAV, faddrAV, binAV, storeAV, AV.putCells, AV.ref, if_true, if_false, Nat.reduceEqDiff, Nat.reduceAdd, Nat.reduceLT, Nat.reduceLeDiff, reduceCtorEq, ↓reduceIte, pickAV, lenAV, intAV, slcA, slcAV, iaddrAV, extAV, fldAV, eqCell, contAV, appendAV, maxI, minI, Option.some.injEq, catT]
    refine hK _ _ nofun ?_
    clear hK K
    exact CW.ret (finK_pure (.inr rfl) (xs := [.int .i64 (chk l)]) (by simp [resRV, Am.get, hc]) rfl rfl)
  · have hlen : ¬ 64 < l.length := by omega
    refine CW.rI fun K hK => ?_
    simp (maxSteps := 4000000) only [amC, amR, setO, Am.set, dr3, dr4, AV.elem, AV.cells, AV.one, loadAV, faddrAV, binAV, storeAV, AV.putCells, AV.ref, if_true, if_false, Nat.reduceEqDiff, Nat.reduceAdd, Nat.reduceLT, Nat.reduceLeDiff, reduceCtorEq, ↓reduceIte, pickAV, lenAV, intAV, slcA, slcAV, iaddrAV, extAV, fldAV, eqCell, contAV, appendAV, maxI, minI, Option.some.injEq, catT]
    refine hK _ _ nofun ?_
    clear hK K
    refine CW.seq ?_
    unfold pts
    refine CW.rI fun K hK => ?_
    simp (maxSteps := 4000000) only [amC, amR, setO, Am.set, dr3, dr4, AV.elem, AV.cells, AV.one, loadAV, faddrAV, binAV, storeAV, AV.putCells, AV.ref, if_true, if_false, Nat.reduceEqDiff, Nat.reduceAdd, Nat.reduceLT, Nat.reduceLeDiff, reduceCtorEq, ↓reduceIte, pickAV, lenAV, intAV, slcA, slcAV, iaddrAV, extAV, fldAV, eqCell, contAV, appendAV, maxI, minI, Option.some.injEq, catT, List.length_map, h1]
    refine hK _ _ nofun ?_
    clear hK K
    refine CW.condF rfl (CW.skip ?_)
    show CW _ _ _ _ _ _
    refine CW.seq ?_
    refine CW.rI fun K hK => ?_
    simp (maxSteps := 4000000) only [amC, amR, setO, Am.set, dr3, dr4, AV.elem, AV.cells, AV.one, loadAV, faddrAV, binAV, storeAV, AV.putCells, AV.ref, if_true, if_false, Nat.reduceEqDiff, Nat.reduceAdd, Nat.reduceLT, Nat.reduceLeDiff, reduceCtorEq, ↓reduceIte, pickAV, lenAV, intAV, slcA, slcAV, iaddrAV, extAV, fldAV, eqCell, contAV, appendAV, maxI, minI, Option.some.injEq, catT]
    refine hK _ _ nofun ?_
    clear hK K
    refine CW.block ?_
    refine CW.loopF (fun i => l.length - i) (fun i => ⟨[(0, .sv false 2 (l.map pt)), (3, .int .i64 (i : Nat))], []⟩) (fun i => i ≤ l.length ∧ (l.take i).all okP = true) (fun i hi => ?_) 0 ⟨Nat.zero_le _, by simp⟩ _ (Fgt.mk' 0 (by simp) (by simp [keepB, Am.get, AV.lt, ltL_pt]) rfl trivial)
    obtain ⟨hi1, hi2⟩ := hi
    refine CW.seq ?_
    by_cases h2 : (i : Int) < (l.length : Int)
    · obtain ⟨p, hp⟩ : ∃ p, l[i]? = some p := ⟨l[i], List.getElem?_eq_getElem (by omega)⟩
      have hpt := get_pts hp
      refine CW.rI fun K hK => ?_
      simp (maxSteps := 4000000) only [amC, amR, setO, Am.set, dr3, dr4, AV.elem, AV.cells, AV.one, loadAV, faddrAV, binAV, storeAV, AV.putCells, AV.ref, if_true, if_false, Nat.reduceEqDiff, Nat.reduceAdd, Nat.reduceLT, Nat.reduceLeDiff, reduceCtorEq, ↓reduceIte, pickAV, lenAV, intAV, slcA, slcAV, iaddrAV, extAV, fldAV, eqCell, contAV, appendAV, maxI, minI, Option.some.injEq, catT, List.length_map, h2]
      refine hK _ _ nofun ?_
      clear hK K
      refine CW.condT rfl (CW.skip ?_)
      show CW _ _ _ _ _ _
      refine CW.seq ?_
      refine CW.block ?_
      by_cases h3 : okP p = true
      · refine CW.rI fun K hK => ?_
        simp (maxSteps := 4000000) only [amC, amR, setO, Am.set, dr3, dr4, AV.elem, AV.cells, AV.one, loadAV, faddrAV, binAV, storeAV, AV.putCells, AV.ref, if_true, if_false, Nat.reduceEqDiff, Nat.reduceAdd, Nat.reduceLT, Nat.reduceLeDiff, reduceCtorEq, ↓reduceIte, pickAV, lenAV, intAV, slcA, slcAV, iaddrAV, extAV, fldAV, eqCell, contAV, appendAV, maxI, minI, Option.some.injEq, catT, List.length_map, h2, hpt, Int.toNat_natCast, Int.natCast_nonneg, AV.cells, pt]
        refine RunCall.view (fid := 59) (caps := []) rfl rfl rfl (c59 p) rfl ?_
        simp (maxSteps := 4000000) only [amC, amR, setO, Am.set, dr3, dr4, AV.elem, AV.cells, AV.one, loadAV, faddrAV, binAV, storeAV, AV.putCells, AV.ref, if_true, if_false, Nat.reduceEqDiff, Nat.reduceAdd, Nat.reduceLT, Nat.reduceLeDiff, reduceCtorEq, ↓reduceIte, pickAV, lenAV, intAV, slcA, slcAV, iaddrAV, extAV, fldAV, eqCell, contAV, appendAV, maxI, minI, Option.some.injEq, catT, h3]
        refine hK _ _ nofun ?_
        clear hK K
        refine CW.condF rfl (CW.skip ?_)
        show CW _ _ _ _ _ _
        refine CW.rE fun K hK => ?_
        simp (maxSteps := 4000000) only [amC, amR, setO, Am.set, dr3, dr4, AV.elem, AV.cells, AV.one, loadAV, faddrAV, binAV, storeAV, AV.putCells, AV.ref, if_true, if_false, Nat.reduceEqDiff, Nat.reduceAdd, Nat.reduceLT, Nat.reduceLeDiff, reduceCtorEq, ↓reduceIte, pickAV, lenAV, intAV, slcA, slcAV, iaddrAV, extAV, fldAV, eqCell, contAV, appendAV, maxI, minI, Option.some.injEq, catT, wrap_nat i (by omega)]
        refine hK _ _ nofun ?_
        clear hK K
        refine ⟨i + 1, by omega, ⟨by omega, ?_⟩, Fgt.mk' 0 (by simp) (by simp [keepB, Am.get, AV.lt, ltL_pt]) rfl trivial⟩
        rw [List.take_add_one, hp]
        simp [hi2, h3]
      · refine CW.rI fun K hK => ?_
        simp (maxSteps := 4000000) only [amC, amR, setO, Am.set, dr3, dr4, AV.elem, AV.cells, AV.one, loadAV, faddrAV, binAV, storeAV, AV.putCells, AV.ref, if_true, if_false, Nat.reduceEqDiff, Nat.reduceAdd, Nat.reduceLT, Nat.reduceLeDiff, reduceCtorEq, ↓reduceIte, pickAV, lenAV, intAV, slcA, slcAV, iaddrAV, extAV, fldAV, eqCell, contAV, appendAV, maxI, minI, Option.some.injEq, catT, List.length_map, h2, hpt, Int.toNat_natCast, Int.natCast_nonneg, AV.cells, pt]
        refine RunCall.view (fid := 59) (caps := []) rfl rfl rfl (c59 p) rfl ?_
        simp (maxSteps := 4000000) only [amC, amR, setO, Am.set, dr3, dr4, AV.elem, AV.cells, AV.one, loadAV, faddrAV, binAV, storeAV, AV.putCells, AV.ref, if_true, if_false, Nat.reduceEqDiff, Nat.reduceAdd, Nat.reduceLT, Nat.reduceLeDiff, reduceCtorEq, ↓reduceIte, pickAV, lenAV, intAV, slcA, slcAV, iaddrAV, extAV, fldAV, eqCell, contAV, appendAV, maxI, minI, Option.some.injEq, catT, h3]
        refine hK _ _ nofun ?_
        clear hK K
        refine CW.condT rfl ?_
        refine CW.rI fun K hK => ?_
        simp (maxSteps := 4000000) only [amC, amR, setO, Am.set, dr3, dr4, AV.elem, AV.cells, AV.one, loadAV, faddrAV, binAV, storeAV, AV.putCells, AV.ref, if_true, if_false, Nat.reduceEqDiff, Nat.reduceAdd, Nat.reduceLT, Nat.reduceLeDiff, reduceCtorEq, ↓reduceIte, pickAV, lenAV, intAV, slcA, slcAV, iaddrAV, extAV, fldAV, eqCell, contAV, appendAV, maxI, minI, Option.some.injEq, catT]
        refine hK _ _ nofun ?_
        clear hK K
        have hc : chk l = 2 := by
          unfold chk
          rw [if_neg hlen, if_neg]
          intro hall
          exact h3 (List.all_eq_true.1 hall p (List.mem_of_getElem? hp))
        exact CW.ret (finK_pure (.inr rfl) (xs := [.int .i64 (chk l)]) (by simp [resRV, Am.get, hc]) rfl rfl)
    · refine CW.rI fun K hK => ?_
      simp (maxSteps := 4000000) only [amC, amR, setO, Am.set, dr3, dr4, AV.elem, AV.cells, AV.one, loadAV, faddrAV, binAV, storeAV, AV.putCells, AV.ref, if_true, if_false, Nat.reduceEqDiff, Nat.reduceAdd, Nat.reduceLT, Nat.reduceLeDiff, reduceCtorEq, ↓reduceIte, pickAV, lenAV, intAV, slcA, slcAV, iaddrAV, extAV, fldAV, eqCell, contAV, appendAV, maxI, minI, Option.some.injEq, catT, List.length_map, h2]
      refine hK _ _ nofun ?_
      clear hK K
      refine CW.condF rfl (CW.exit ?_)
      show CW _ _ _ _ _ _
      refine CW.rI fun K hK => ?_
      simp (maxSteps := 4000000) only [amC, amR, setO, Am.set, dr3, dr4, AV.elem, AV.cells, AV.one, loadAV, faddrAV, binAV, storeAV, AV.putCells, AV.ref, if_true, if_false, Nat.reduceEqDiff, Nat.reduceAdd, Nat.reduceLT, Nat.reduceLeDiff, reduceCtorEq, ↓reduceIte, pickAV, lenAV, intAV, slcA, slcAV, iaddrAV, extAV, fldAV, eqCell, contAV, appendAV, maxI, minI, Option.some.injEq, catT]
      refine hK _ _ nofun ?_
      clear hK K
      have hil : i = l.length := by omega
      subst hil
      have hc : chk l = 0 := by
        unfold chk
        rw [if_neg hlen, if_pos]
        simpa using hi2
      exact CW.ret (finK_pure (.inr rfl) (xs := [.int .i64 (chk l)]) (by simp [resRV, Am.get, hc]) rfl rfl)
end Go.Hull
end
section
set_option linter.unusedSimpArgs false
set_option linter.unusedVariables false
namespace Go.Hull
open Go Go.Am Go.Proofs

theorem c102 (l : List Pt) (hl : l.length < 4611686018427387904) : CallsF Try.prog 102 [.clo 82 [], pts l] [] (.int .i64 (if l.all okP = true then 0 else 2)) [] := by
  refine callsF_cw hm hf102 (by simp [cf102]) ?_
  simp only [cf102, argsAl]
  unfold pts
  refine CW.rI fun K hK => ?_
  simp (maxSteps := 4000000) only [amC, amR, setO, Am.set, dr3, dr4, AV.elem, AV.cells, AV.one, loadAV, faddrAV, binAV, storeAV, AV.putCells, AV.ref, if_true, if_false, Nat.reduceEqDiff, Nat.reduceAdd, Nat.reduceLT, Nat.reduceLeDiff, reduceCtorEq, ↓reduceIte, pickAV, lenAV, intAV, slcA, slcAV, iaddrAV, extAV, fldAV, eqCell, contAV, appendAV, maxI, minI, Option.some.injEq, catT]
  refine hK _ _ nofun ?_
  clear hK K
  refine CW.seq ?_
  refine CW.rI fun K hK => ?_
  simp (maxSteps := 4000000) only [amC, amR, setO, Am.set, dr3, dr4, AV.elem, AV.cells, AV.one, loadAV, faddrAV, binAV, storeAV, AV.putCells, AV.ref, if_true, if_false, Nat.reduceEqDiff, Nat.reduceAdd, Nat.reduceLT, Nat.reduceLeDiff, reduceCtorEq, ↓reduceIte, pickAV, lenAV, intAV, slcA, slcAV, iaddrAV, extAV, fldAV, eqCell, contAV, appendAV, maxI, minI, Option.some.injEq, catT, List.length_map]
  refine hK _ _ nofun ?_
  clear hK K
  refine CW.block ?_
  refine CW.loopF (fun i => l.length - i) (fun i => ⟨[(0, .clo 82 []), (7, .sv false 2 (l.map pt)), (8, .int .i64 l.length), (9, .int .i64 (i : Nat))], []⟩) (fun i => i ≤ l.length ∧ (l.take i).all okP = true) (fun i hi => ?_) 0 ⟨Nat.zero_le _, by simp⟩ _ (Fgt.mk' 0 (by simp) (by simp [keepB, Am.get, AV.lt, ltL_pt, ltL]) rfl trivial)
  obtain ⟨hi1, hi2⟩ := hi
  by_cases h2 : (i : Int) < (l.length : Int)
  · obtain ⟨p, hp⟩ : ∃ p, l[i]? = some p := ⟨l[i], List.getElem?_eq_getElem (by omega)⟩
    have hpt := get_pts hp
    refine CW.rI fun K hK => ?_
    simp (maxSteps := 4000000) only [amC, amR, setO, Am.set, dr3, dr4, AV.elem, AV.cells, AV.one, loadAV, faddrAV, binAV, storeAV, AV.putCells, AV.ref, if_true, if_false, Nat.reduceEqDiff, Nat.reduceAdd, Nat.reduceLT, Nat.reduceLeDiff, reduceCtorEq, ↓reduceIte, pickAV, lenAV, intAV, slcA, slcAV, iaddrAV, extAV, fldAV, eqCell, contAV, appendAV, maxI, minI, Option.some.injEq, catT, h2]
    refine hK _ _ nofun ?_
    clear hK K
    refine CW.seq ?_
    refine CW.condT rfl (CW.skip ?_)
    show CW _ _ _ _ _ _
    refine CW.seq ?_
    refine CW.block ?_
    by_cases h3 : okP p = true
    · refine CW.rI fun K hK => ?_
      simp (maxSteps := 4000000) only [amC, amR, setO, Am.set, dr3, dr4, AV.elem, AV.cells, AV.one, loadAV, faddrAV, binAV, storeAV, AV.putCells, AV.ref, if_true, if_false, Nat.reduceEqDiff, Nat.reduceAdd, Nat.reduceLT, Nat.reduceLeDiff, reduceCtorEq, ↓reduceIte, pickAV, lenAV, intAV, slcA, slcAV, iaddrAV, extAV, fldAV, eqCell, contAV, appendAV, maxI, minI, Option.some.injEq, catT, List.length_map, h2, hpt, Int.toNat_natCast, Int.natCast_nonneg, AV.cells, pt, AV.elem, AV.one, List.all_cons, List.all_nil]
      refine hK _ _ nofun ?_
      clear hK K
      refine CW.rI fun K hK => ?_
      simp (maxSteps := 4000000) only [amC, amR, setO, Am.set, dr3, dr4, AV.elem, AV.cells, AV.one, loadAV, faddrAV, binAV, storeAV, AV.putCells, AV.ref, if_true, if_false, Nat.reduceEqDiff, Nat.reduceAdd, Nat.reduceLT, Nat.reduceLeDiff, reduceCtorEq, ↓reduceIte, pickAV, lenAV, intAV, slcA, slcAV, iaddrAV, extAV, fldAV, eqCell, contAV, appendAV, maxI, minI, Option.some.injEq, catT, AV.cells, pt, AV.putCells]
      refine RunCall.view (fid := 82) (caps := []) rfl rfl rfl (c82 p) rfl ?_
      simp (maxSteps := 4000000) only [amC, amR, setO, Am.set, dr3, dr4, AV.elem, AV.cells, AV.one, loadAV, faddrAV, binAV, storeAV, AV.putCells, AV.ref, if_true, if_false, Nat.reduceEqDiff, Nat.reduceAdd, Nat.reduceLT, Nat.reduceLeDiff, reduceCtorEq, ↓reduceIte, pickAV, lenAV, intAV, slcA, slcAV, iaddrAV, extAV, fldAV, eqCell, contAV, appendAV, maxI, minI, Option.some.injEq, catT, h3]
      refine hK _ _ nofun ?_
      clear hK K
      refine CW.condF rfl (CW.skip ?_)
      show CW _ _ _ _ _ _
      refine CW.rE fun K hK => ?_
      simp (maxSteps := 4000000) only [amC, amR, setO, Am.set, dr3, dr4, AV.elem, AV.cells, AV.one, loadAV, faddrAV, binAV, storeAV, AV.putCells, AV.ref, if_true, if_false, Nat.reduceEqDiff, Nat.reduceAdd, Nat.reduceLT, Nat.reduceLeDiff, reduceCtorEq, ↓reduceIte, pickAV, lenAV, intAV, slcA, slcAV, iaddrAV, extAV, fldAV, eqCell, contAV, appendAV, maxI, minI, Option.some.injEq, catT, wrap_nat i (by omega)]
      refine hK _ _ nofun ?_
      clear hK K
      refine ⟨i + 1, by omega, ⟨by omega, ?_⟩, Fgt.mk' 0 (by simp) (by simp [keepB, Am.get, AV.lt, ltL_pt, ltL]) rfl trivial⟩
      rw [List.take_add_one, hp]
      simp [hi2, h3]
    · refine CW.rI fun K hK => ?_
      simp (maxSteps := 4000000) only [amC, amR, setO, Am.set, dr3, dr4, AV.elem, AV.cells, AV.one, loadAV, faddrAV, binAV, storeAV, AV.putCells, AV.ref, if_true, if_false, Nat.reduceEqDiff, Nat.reduceAdd, Nat.reduceLT, Nat.reduceLeDiff, reduceCtorEq, ↓reduceIte, pickAV, lenAV, intAV, slcA, slcAV, iaddrAV, extAV, fldAV, eqCell, contAV, appendAV, maxI, minI, Option.some.injEq, catT, List.length_map, h2, hpt, Int.toNat_natCast, Int.natCast_nonneg, AV.cells, pt, AV.elem, AV.one, List.all_cons, List.all_nil]
      refine hK _ _ nofun ?_
      clear hK K
      refine CW.rI fun K hK => ?_
      simp (maxSteps := 4000000) only [amC, amR, setO, Am.set, dr3, dr4, AV.elem, AV.cells, AV.one, loadAV, faddrAV, binAV, storeAV, AV.putCells, AV.ref, if_true, if_false, Nat.reduceEqDiff, Nat.reduceAdd, Nat.reduceLT, Nat.reduceLeDiff, reduceCtorEq, ↓reduceIte, pickAV, lenAV, intAV, slcA, slcAV, iaddrAV, extAV, fldAV, eqCell, contAV, appendAV, maxI, minI, Option.some.injEq, catT, AV.cells, pt, AV.putCells]
      refine RunCall.view (fid := 82) (caps := []) rfl rfl rfl (c82 p) rfl ?_
      simp (maxSteps := 4000000) only [amC, amR, setO, Am.set, dr3, dr4, AV.elem, AV.cells, AV.one, loadAV, faddrAV, binAV, storeAV, AV.putCells, AV.ref, if_true, if_false, Nat.reduceEqDiff, Nat.reduceAdd, Nat.reduceLT, Nat.reduceLeDiff, reduceCtorEq, ↓reduceIte, pickAV, lenAV, intAV, slcA, slcAV, iaddrAV, extAV, fldAV, eqCell, contAV, appendAV, maxI, minI, Option.some.injEq, catT, h3]
      refine hK _ _ nofun ?_
      clear hK K
      refine CW.condT rfl ?_
      refine CW.rI fun K hK => ?_
      simp (maxSteps := 4000000) only [amC, amR, setO, Am.set, dr3, dr4, AV.elem, AV.cells, AV.one, loadAV, faddrAV, binAV, storeAV, AV.putCells, AV.ref, if_true, if_false, Nat.reduceEqDiff, Nat.reduceAdd, Nat.reduceLT, Nat.reduceLeDiff, reduceCtorEq, ↓reduceIte, pickAV, lenAV, intAV, slcA, slcAV, iaddrAV, extAV, fldAV, eqCell, contAV, appendAV, maxI, minI, Option.some.injEq, catT]
      refine hK _ _ nofun ?_
      clear hK K
      have hc : (if l.all okP = true then (0 : Int) else 2) = 2 := by
        rw [if_neg]
        intro hall
        exact h3 (List.all_eq_true.1 hall p (List.mem_of_getElem? hp))
      rw [hc]
      exact CW.ret (finK_pure (.inr rfl) (xs := [.int .i64 2]) (by simp [resRV, Am.get, hc]) rfl rfl)
  · refine CW.rI fun K hK => ?_
    simp (maxSteps := 4000000) only [amC, amR, setO, Am.set, dr3, dr4, AV.elem, AV.cells, AV.one, loadAV, faddrAV, binAV, storeAV, AV.putCells, AV.ref, if_true, if_false, Nat.reduceEqDiff, Nat.reduceAdd, Nat.reduceLT, Nat.reduceLeDiff, reduceCtorEq, ↓reduceIte, pickAV, lenAV, intAV, slcA, slcAV, iaddrAV, extAV, fldAV, eqCell, contAV, appendAV, maxI, minI, Option.some.injEq, catT, h2]
    refine hK _ _ nofun ?_
    clear hK K
    refine CW.seq ?_
    refine CW.condF rfl (CW.exit ?_)
    show CW _ _ _ _ _ _
    refine CW.rI fun K hK => ?_
    simp (maxSteps := 4000000) only [amC, amR, setO, Am.set, dr3, dr4, AV.elem, AV.cells, AV.one, loadAV, faddrAV, binAV, storeAV, AV.putCells, AV.ref, if_true, if_false, Nat.reduceEqDiff, Nat.reduceAdd, Nat.reduceLT, Nat.reduceLeDiff, reduceCtorEq, ↓reduceIte, pickAV, lenAV, intAV, slcA, slcAV, iaddrAV, extAV, fldAV, eqCell, contAV, appendAV, maxI, minI, Option.some.injEq, catT]
    refine hK _ _ nofun ?_
    clear hK K
    have hil : i = l.length := by omega
    subst hil
    have hc : (if l.all okP = true then (0 : Int) else 2) = 0 := by
      rw [if_pos]
      simpa using hi2
    rw [hc]
    exact CW.ret (finK_pure (.inr rfl) (xs := [.int .i64 0]) (by simp [resRV, Am.get, hc]) rfl rfl)
theorem c81 (l : List Pt) (hl : l.length < 4611686018427387904) : CallsF Try.prog 81 [pts l, .clo 82 []] [] (.int .i64 (chk l)) [] := by
  refine callsF_cw hm hf81 (by simp [cf81]) ?_
  simp only [cf81, argsAl]
  refine CW.rI fun K hK => ?_
  simp (maxSteps := 4000000) only [amC, amR, setO, Am.set, dr3, dr4, AV.elem, AV.cells, AV.one, loadAV, faddrAV, binAV, storeAV, AV.putCells, AV.ref, if_true, if_false, Nat.reduceEqDiff, Nat.reduceAdd, Nat.reduceLT, Nat.reduceLeDiff, reduceCtorEq, ↓reduceIte, pickAV, lenAV, intAV, slcA, slcAV, iaddrAV, extAV, fldAV, eqCell, contAV, appendAV, maxI, minI, Option.some.injEq, catT]
  refine hK _ _ nofun ?_
  clear hK K
  refine CW.seq ?_
  by_cases h1 : (64 : Int) < (l.length : Int)
  · have hc : chk l = 5 := by unfold chk; rw [if_pos (by omega)]
    unfold pts
    refine CW.rI fun K hK => ?_
    simp (maxSteps := 4000000) only [amC, amR, setO, Am.set, dr3, dr4, AV.elem, AV.cells, AV.one, loadAV, faddrAV, binAV, storeAV, AV.putCells, AV.ref, if_true, if_false, Nat.reduceEqDiff, Nat.reduceAdd, Nat.reduceLT, Nat.reduceLeDiff, reduceCtorEq, ↓reduceIte, pickAV, lenAV, intAV, slcA, slcAV, iaddrAV, extAV, fldAV, eqCell, contAV, appendAV, maxI, minI, Option.some.injEq, catT, List.length_map, h1]
    refine hK _ _ nofun ?_
    clear hK K
    refine CW.condT rfl ?_
    refine CW.rI fun K hK => ?_
    simp (maxSteps := 4000000) only [amC, amR, setO, Am.set, dr3, dr4, AV.elem, AV.cells, AV.one, loadAV, faddrAV, binAV, storeAV, AV.putCells, AV.ref, if_true, if_false, Nat.reduceEqDiff, Nat.reduceAdd, Nat.reduceLT, Nat.reduceLeDiff, reduceCtorEq, ↓reduceIte, pickAV, lenAV, intAV, slcA, slcAV, iaddrAV, extAV, fldAV, eqCell, contAV, appendAV, maxI, minI, Option.some.injEq, catT]
    refine hK _ _ nofun ?_
    clear hK K
    exact CW.ret (finK_pure (.inr rfl) (xs := [.int .i64 (chk l)]) (by simp [resRV, Am.get, hc]) rfl rfl)
  · have hc : chk l = if l.all okP = true then 0 else 2 := by unfold chk; rw [if_neg (by omega)]
    unfold pts
    refine CW.rI fun K hK => ?_
    simp (maxSteps := 4000000) only [amC, amR, setO, Am.set, dr3, dr4, AV.elem, AV.cells, AV.one, loadAV, faddrAV, binAV, storeAV, AV.putCells, AV.ref, if_true, if_false, Nat.reduceEqDiff, Nat.reduceAdd, Nat.reduceLT, Nat.reduceLeDiff, reduceCtorEq, ↓reduceIte, pickAV, lenAV, intAV, slcA, slcAV, iaddrAV, extAV, fldAV, eqCell, contAV, appendAV, maxI, minI, Option.some.injEq, catT, List.length_map, h1]
    refine hK _ _ nofun ?_
    clear hK K
    refine CW.condF rfl (CW.skip ?_)
    show CW _ _ _ _ _ _
    refine CW.rI fun K hK => ?_
    simp (maxSteps := 4000000) only [amC, amR, setO, Am.set, dr3, dr4, AV.elem, AV.cells, AV.one, loadAV, faddrAV, binAV, storeAV, AV.putCells, AV.ref, if_true, if_false, Nat.reduceEqDiff, Nat.reduceAdd, Nat.reduceLT, Nat.reduceLeDiff, reduceCtorEq, ↓reduceIte, pickAV, lenAV, intAV, slcA, slcAV, iaddrAV, extAV, fldAV, eqCell, contAV, appendAV, maxI, minI, Option.some.injEq, catT]
    refine RunCall.view (fid := 102) (caps := []) rfl rfl (viewArgs_flat2 rfl (flat_pts l 2)) (c102 l hl) rfl ?_
    simp (maxSteps := 4000000) only [amC, amR, setO, Am.set, dr3, dr4, AV.elem, AV.cells, AV.one, loadAV, faddrAV, binAV, storeAV, AV.putCells, AV.ref, if_true, if_false, Nat.reduceEqDiff, Nat.reduceAdd, Nat.reduceLT, Nat.reduceLeDiff, reduceCtorEq, ↓reduceIte, pickAV, lenAV, intAV, slcA, slcAV, iaddrAV, extAV, fldAV, eqCell, contAV, appendAV, maxI, minI, Option.some.injEq, catT]
    refine hK _ _ nofun ?_
    clear hK K
    exact CW.ret (finK_pure (.inr rfl) (xs := [.int .i64 (chk l)]) (by simp [resRV, Am.get, hc]) rfl rfl)
theorem c50 (l : List Pt) (hl : l.length < 4611686018427387904) : CallsF Try.prog 50 [pts l] [] (.int .i64 (chk l)) [] := by
  refine callsF_cw hm hf50 (by simp [cf50]) ?_
  simp only [cf50, argsAl]
  refine CW.rI fun K hK => ?_
  simp (maxSteps := 4000000) only [amC, amR, setO, Am.set, dr3, dr4, AV.elem, AV.cells, AV.one, loadAV, faddrAV, binAV, storeAV, AV.putCells, AV.ref, if_true, if_false, Nat.reduceEqDiff, Nat.reduceAdd, Nat.reduceLT, Nat.reduceLeDiff, reduceCtorEq, ↓reduceIte, pickAV, lenAV, intAV, slcA, slcAV, iaddrAV, extAV, fldAV, eqCell, contAV, appendAV, maxI, minI, Option.some.injEq, catT]
  refine hK _ _ nofun ?_
  clear hK K
  refine CW.rI fun K hK => ?_
  simp (maxSteps := 4000000) only [amC, amR, setO, Am.set, dr3, dr4, AV.elem, AV.cells, AV.one, loadAV, faddrAV, binAV, storeAV, AV.putCells, AV.ref, if_true, if_false, Nat.reduceEqDiff, Nat.reduceAdd, Nat.reduceLT, Nat.reduceLeDiff, reduceCtorEq, ↓reduceIte, pickAV, lenAV, intAV, slcA, slcAV, iaddrAV, extAV, fldAV, eqCell, contAV, appendAV, maxI, minI, Option.some.injEq, catT]
  refine RunCall.view (fid := 81) (caps := []) rfl rfl (viewArgs_flat2 (flat_pts l 2) rfl) (c81 l hl) rfl ?_
  simp (maxSteps := 4000000) only [amC, amR, setO, Am.set, dr3, dr4, AV.elem, AV.cells, AV.one, loadAV, faddrAV, binAV, storeAV, AV.putCells, AV.ref, if_true, if_false, Nat.reduceEqDiff, Nat.reduceAdd, Nat.reduceLT, Nat.reduceLeDiff, reduceCtorEq, ↓reduceIte, pickAV, lenAV, intAV, slcA, slcAV, iaddrAV, extAV, fldAV, eqCell, contAV, appendAV, maxI, minI, Option.some.injEq, catT]
  refine hK _ _ nofun ?_
  clear hK K
  exact CW.ret (finK_pure (.inr rfl) (xs := [.int .i64 (chk l)]) (by simp [resRV, Am.get]) rfl rfl)
theorem c25 (l : List Pt) : CallsF Try.prog 25 [pts l] [] (.bool (decide (0 < l.length) && (decide (l.length ≤ 8) && (chk l == 0)))) [] := by
  refine callsF_cw hm hf25 (by simp [cf25]) ?_
  simp only [cf25, argsAl]
  refine CW.rI fun K hK => ?_
  simp (maxSteps := 4000000) only [amC, amR, setO, Am.set, dr3, dr4, AV.elem, AV.cells, AV.one, loadAV, faddrAV, binAV, storeAV, AV.putCells, AV.ref, if_true, if_false, Nat.reduceEqDiff, Nat.reduceAdd, Nat.reduceLT, Nat.reduceLeDiff, reduceCtorEq, ↓reduceIte, pickAV, lenAV, intAV, slcA, slcAV, iaddrAV, extAV, fldAV, eqCell, contAV, appendAV, maxI, minI, Option.some.injEq, catT]
  refine hK _ _ nofun ?_
  clear hK K
  by_cases h1 : (0 : Int) < (l.length : Int)
  · have h1' : 0 < l.length := by omega
    by_cases h2 : (l.length : Int) ≤ 8
    · have h2' : l.length ≤ 8 := by omega
      refine CW.rI fun K hK => ?_
      unfold pts
      simp (maxSteps := 4000000) only [amC, amR, setO, Am.set, dr3, dr4, AV.elem, AV.cells, AV.one, loadAV, faddrAV, binAV, storeAV, AV.putCells, AV.ref, if_true, if_false, Nat.reduceEqDiff, Nat.reduceAdd, Nat.reduceLT, Nat.reduceLeDiff, reduceCtorEq, ↓reduceIte, pickAV, lenAV, intAV, slcA, slcAV, iaddrAV, extAV, fldAV, eqCell, contAV, appendAV, maxI, minI, Option.some.injEq, catT, List.length_map, h1, h2]
      refine RunCall.view (fid := 58) (caps := []) rfl rfl (viewArgs_flat1 (flat_pts l 2)) (c58 l (by omega)) rfl ?_
      simp (maxSteps := 4000000) only [amC, amR, setO, Am.set, dr3, dr4, AV.elem, AV.cells, AV.one, loadAV, faddrAV, binAV, storeAV, AV.putCells, AV.ref, if_true, if_false, Nat.reduceEqDiff, Nat.reduceAdd, Nat.reduceLT, Nat.reduceLeDiff, reduceCtorEq, ↓reduceIte, pickAV, lenAV, intAV, slcA, slcAV, iaddrAV, extAV, fldAV, eqCell, contAV, appendAV, maxI, minI, Option.some.injEq, catT]
      refine hK _ _ nofun ?_
      clear hK K
      exact CW.ret (finK_pure (.inr rfl) (xs := [.bool (decide (0 < l.length) && (decide (l.length ≤ 8) && (chk l == 0)))]) (by simp [resRV, Am.get, h1', h2']) rfl rfl)
    · have h2' : ¬ l.length ≤ 8 := by omega
      refine CW.rI fun K hK => ?_
      unfold pts
      simp (maxSteps := 4000000) only [amC, amR, setO, Am.set, dr3, dr4, AV.elem, AV.cells, AV.one, loadAV, faddrAV, binAV, storeAV, AV.putCells, AV.ref, if_true, if_false, Nat.reduceEqDiff, Nat.reduceAdd, Nat.reduceLT, Nat.reduceLeDiff, reduceCtorEq, ↓reduceIte, pickAV, lenAV, intAV, slcA, slcAV, iaddrAV, extAV, fldAV, eqCell, contAV, appendAV, maxI, minI, Option.some.injEq, catT, List.length_map, h1, h2]
      refine hK _ _ nofun ?_
      clear hK K
      exact CW.ret (finK_pure (.inr rfl) (xs := [.bool (decide (0 < l.length) && (decide (l.length ≤ 8) && (chk l == 0)))]) (by simp [resRV, Am.get, h1', h2']) rfl rfl)
  · have h1' : ¬ 0 < l.length := by omega
    refine CW.rI fun K hK => ?_
    unfold pts
    simp (maxSteps := 4000000) only [amC, amR, setO, Am.set, dr3, dr4, AV.elem, AV.cells, AV.one, loadAV, faddrAV, binAV, storeAV, AV.putCells, AV.ref, if_true, if_false, Nat.reduceEqDiff, Nat.reduceAdd, Nat.reduceLT, Nat.reduceLeDiff, reduceCtorEq, ↓reduceIte, pickAV, lenAV, intAV, slcA, slcAV, iaddrAV, extAV, fldAV, eqCell, contAV, appendAV, maxI, minI, Option.some.injEq, catT, List.length_map, h1]
    refine hK _ _ nofun ?_
    clear hK K
    exact CW.ret (finK_pure (.inr rfl) (xs := [.bool (decide (0 < l.length) && (decide (l.length ≤ 8) && (chk l == 0)))]) (by simp [resRV, Am.get, h1']) rfl rfl)
end Go.Hull
end
section
set_option linter.unusedSimpArgs false
set_option linter.unusedVariables false
namespace Go.Hull
open Go Go.Am Go.Proofs Go.ChangeShapes Go.WideShapes Go.ChangeAt Go.RowKit

section
variable {H : Type} {enc : TypeId × Value → H} {P : Program} {w : World} {base : Nat} {spare : Nat → Bool} {held : Bool}

/-- Two whole numbers in cells. -/
theorem cells_two {a : Addr} {cs : List Value} (h : w.cells? base a 2 = some cs) : ∃ u v, cs = [u, v] ∧ w.cell? (a.add 0) = some u ∧ w.cell? (a.add 1) = some v := by
  unfold World.cells? at h
  split at h <;> first | (cases h; done) | skip
  have hr : List.range 2 = [0, 1] := rfl
  rw [hr] at h
  simp only [List.mapM_cons, List.mapM_nil] at h
  cases h0 : w.cell? (a.add 0) with
  | none => simp [h0] at h
  | some u =>
    cases h1 : w.cell? (a.add 1) with
    | none => simp [h0, h1] at h
    | some v =>
      simp [h0, h1] at h
      exact ⟨u, v, h.symm, rfl, rfl⟩
theorem open_pts {t e k : TypeId} {fs : Array Field} {f0 f1 : Field} {fuel : Nat} {cs : List Value} {x : DataW H × List MemPlace} (ht : P.underlying t = some (.slice e)) (he : P.underlying e = some (.struct fs)) (hc : P.cellsOf e = 2)
    (h0 : fs[0]? = some f0) (h1 : fs[1]? = some f1) (t0 : f0.type = k) (t1 : f1.type = k) (o0 : f0.offset = 0) (o1 : f1.offset = 1) (hk : P.underlying k = some (.int .i64)) (hck : P.cellsOf k = 1)
    (h : DataW.trod enc P w base spare held fuel t cs = some x) :
    cs = [.slice none 0 0] ∨ ∃ (a : Addr) (len cap : Nat) (zs : List Pt), cs = [.slice (some a) len cap] ∧ len ≤ cap ∧ cap ≤ maxLen ∧ zs.length = len ∧
      ∀ (i : Nat) (p : Pt), zs[i]? = some p → w.cell? (a.add (i * 2)) = some (.int .i64 p.1) ∧ w.cell? (a.add (i * 2 + 1)) = some (.int .i64 p.2) := by
  rcases DataW.trod_slice ht h with ⟨rfl, -⟩ | ⟨a, len, cap, elems, rest, n, _, rfl, rfl, hb, hl, hm, hlen, hel, hsp, hns⟩
  · exact .inl rfl
  right
  have each : ∀ i, i < len → ∃ p : Pt, w.cell? (a.add (i * 2)) = some (.int .i64 p.1) ∧ w.cell? (a.add (i * 2 + 1)) = some (.int .i64 p.2) := by
    intro i hi
    have hi' := hel i hi
    obtain ⟨y, hy⟩ : ∃ y, elems[i]? = some y := ⟨elems[i]'(by omega), List.getElem?_eq_getElem (by omega)⟩
    rw [hy, hc, Option.bind_eq_some_iff] at hi'
    obtain ⟨cs', hcs, hy'⟩ := hi'
    obtain ⟨u, v, rfl, hu, hv⟩ := cells_two hcs
    obtain ⟨xs, m, -, -, -, hxl, hxf⟩ := DataW.trod_struct he hy'
    have e0 := hxf 0 f0 h0
    have e1 := hxf 1 f1 h1
    rw [t0, o0, hck] at e0
    rw [t1, o1, hck] at e1
    have l0 : 0 < xs.length := by rw [hxl]; exact (Array.getElem?_eq_some_iff.1 h0).1
    have l1 : 1 < xs.length := by rw [hxl]; exact (Array.getElem?_eq_some_iff.1 h1).1
    rw [List.getElem?_eq_getElem l0] at e0
    rw [List.getElem?_eq_getElem l1] at e1
    obtain ⟨n0, g0, -, -⟩ := DataW.trod_int hk e0
    obtain ⟨n1, g1, -, -⟩ := DataW.trod_int hk e1
    simp at g0 g1
    subst g0 g1
    refine ⟨(n0, n1), ?_, ?_⟩
    · simpa [Addr.add] using hu
    · have e : (a.add (i * 2)).add 1 = a.add (i * 2 + 1) := by
        unfold Addr.add
        by_cases h : i * 2 = 0 <;> simp [h] <;> omega
      rw [e] at hv
      exact hv
  refine ⟨a, len, cap, (List.range len).map (fun i => if h : i < len then (each i h).choose else (0, 0)), rfl, hl, hm, by simp, fun i p hp => ?_⟩
  rw [List.getElem?_map] at hp
  have hi : i < len := by
    refine Nat.lt_of_not_le fun hle => ?_
    rw [List.getElem?_eq_none (by simpa using hle)] at hp
    cases hp
  rw [List.getElem?_range hi] at hp
  simp only [Option.map_some, Option.some.injEq, dif_pos hi] at hp
  subst hp
  exact (each i hi).choose_spec
end

def k0 (w : World) : Am.K := { B := w.heap.size, prot := fun _ => 0, rho := fun _ _ => none, yl := none }
theorem k0_inv (w : World) : Inv (k0 w) (hget []) w := ⟨Nat.le_refl _, fun b => fun g => rfl, fun b b' loc loc' h => (by obtain ⟨g, frz, sz, xs, h1, _⟩ := h; cases h1), fun c h => absurd rfl h⟩
theorem rel_pts {w : World} {a : Addr} {len cap : Nat} {zs : List Pt} (hl : len ≤ cap) (hz : zs.length = len) (hcell : ∀ (i : Nat) (p : Pt), zs[i]? = some p → w.cell? (a.add (i * 2)) = some (.int .i64 p.1) ∧ w.cell? (a.add (i * 2 + 1)) = some (.int .i64 p.2)) :
    VRel (k0 w) w (pts zs) (.slice (some a) len cap) := by
  have hspot : zs ≠ [] → a.spot = none := fun hne => by
    obtain ⟨p, l, rfl⟩ := List.exists_cons_of_ne_nil hne
    have := (hcell 0 p rfl).1
    unfold World.cell? at this
    split at this <;> first | (cases this; done) | skip
    split at this <;> first | (cases this; done) | skip
    rename_i hs
    simpa [Addr.add] using hs
  have key : ∀ (k j : Nat) (x : AV), cellAt (zs.map pt) k j = some x → ∃ p, zs[k]? = some p ∧ ((j = 0 ∧ x = .int .i64 p.1) ∨ (j = 1 ∧ x = .int .i64 p.2)) := fun k j x hk => by
    unfold cellAt at hk
    rw [List.getElem?_map] at hk
    cases hq : zs[k]? with
    | none => simp [hq] at hk
    | some p =>
      simp only [hq, Option.map_some, Option.bind_some, pt, AV.cells] at hk
      refine ⟨p, rfl, ?_⟩
      match j with
      | 0 => left; simp at hk; exact ⟨rfl, hk.symm⟩
      | 1 => right; simp at hk; exact ⟨rfl, hk.symm⟩
      | j + 2 => simp at hk
  have hlen : (zs.map pt).length = len := by simpa using hz
  have := VRel.sv (κ := k0 w) (w := w) (vol := false) (sz := 2) (xs := zs.map pt) (some a) cap (fun k j => if j = 0 then .int .i64 (zs.getD k (0, 0)).1 else .int .i64 (zs.getD k (0, 0)).2) (by omega) nofun
    (fun hne => ⟨a, rfl, hspot (by rintro rfl; exact hne rfl)⟩)
    (fun p k j x hp hk => by
      cases hp
      obtain ⟨q, hq, hx⟩ := key k j x hk
      have hne : zs ≠ [] := by rintro rfl; simp at hq
      have hsp := hspot hne
      obtain ⟨c0, c1⟩ := hcell k q hq
      have hgd : zs.getD k (0, 0) = q := by simp [List.getD_eq_getElem?_getD, hq]
      have hpr : ∀ off v, w.cell? ⟨a.block, off, none⟩ = some v → Pr (k0 w) a.block off := fun off v hv => .inl (World.block_lt_of_cell? w ⟨a.block, off, none⟩ hv)
      rcases hx with ⟨rfl, -⟩ | ⟨rfl, -⟩
      · have e : (a.add (k * 2)) = ⟨a.block, a.off + k * 2 + 0, none⟩ := by
          obtain ⟨ab, ao, asp⟩ := a
          simp only at hsp
          subst hsp
          unfold Addr.add
          by_cases h : k * 2 = 0 <;> simp [h]
        rw [e] at c0
        simp only [if_true, hgd]
        exact ⟨c0, hpr _ _ c0⟩
      · have e : (a.add (k * 2 + 1)) = ⟨a.block, a.off + k * 2 + 1, none⟩ := by simp [Addr.add, hsp, Nat.add_assoc]
        rw [e] at c1
        rw [if_neg (by decide), hgd]
        exact ⟨c1, hpr _ _ c1⟩)
    (fun e he => by obtain ⟨p, -, rfl⟩ := List.mem_map.1 he; rfl)
    (fun k j x hk => by
      obtain ⟨q, hq, hx⟩ := key k j x hk
      have hgd : zs.getD k (0, 0) = q := by simp [List.getD_eq_getElem?_getD, hq]
      rcases hx with ⟨rfl, rfl⟩ | ⟨rfl, rfl⟩
      · rw [if_pos rfl, hgd]; exact .int _ _
      · rw [if_neg (by decide), hgd]; exact .int _ _)
  rw [hlen] at this
  exact this
theorem rel_nil (w : World) : VRel (k0 w) w (pts []) (.slice none 0 0) :=
  VRel.sv (vol := false) (sz := 2) (xs := []) none 0 (fun _ _ => undef) (Nat.le_refl _) nofun (fun h => absurd rfl h) (fun p k j x hp => by cases hp) (fun e he => by cases he) (fun k j x hk => by simp [cellAt] at hk)
/-- A law's contract as the machine's call. -/
theorem law_calls {f : Nat} {args : List AV} (hC : CallsF Try.prog f args [] (.bool true) []) {w : World} {vs : Array Value} (hl : args.length = vs.size) (hr : ∀ (i : Nat) (x : AV) (v : Value), args[i]? = some x → vs[i]? = some v → VRel (k0 w) w x v) :
    Calls Try.prog f vs w fun e w' => e = .returned (.bool true) ∧ Below w.heap.size w w' := by
  refine callsIn_wide.1 ((hC.calls (k0 w) w vs rfl (k0_inv w) hl hr).mono ?_)
  rintro e w' ⟨v, κ', rfl, hx, hi, hv, hc⟩
  cases hv
  refine ⟨rfl, ?_⟩
  have := hc.below (k0_inv w)
  exact this
end Go.Hull
end
section
set_option linter.unusedVariables false
namespace Go.Hull.Divides
open Go Go.Am Go.Proofs Go.Proofs.Ytkbpkbjfphdgeaa Go.ChangeShapes Go.WideShapes Go.ChangeAt Go.RowKit

theorem own : ownKnob Try.prog.godebug = none := by kernel_rfl
theorem laidOut : laidOutB Try.prog = true := by kernel_rfl
def Contract : Prop := ∀ (x0 : List Pt) (x1 : List Pt), CallsF Try.prog 6 [pts x0, pts x1] [] (.bool true) []
set_option maxRecDepth 100000 in
theorem lifted (hC : Contract) (os : Os) (started : os.Started) (H : Type) (enc : TypeId × Value → H) :
    ReturnsInHanded {} Try.checked os 6 .any (Rows.hullDividesSpec.pre6 enc Try.prog Try.f6 Rows.hullDividesRow.domain false) (Rows.hullDividesSpec.post enc Try.prog Try.f6 false true false false) := by
  refine returnsInHanded_of_change_sized (C := Try.checked) own started (by kernel_rfl) Try.func6
    (ChangeSpec.witness6 (enc := enc) (C := Try.checked) false ⟨#[], #[.slice none 0 0, .slice none 0 0], []⟩ 8 (by kernel_rfl) (by kernel_rfl) (by kernel_rfl) (by kernel_rfl)) ?_
  intro W base args ds gs before hval0 hW hcnd hsz0 _
  have hval : ∀ (j : Nat) t v, Try.f6.params[j]? = some t → args[j]? = some v → Value.okWide Try.prog W .any base t v := hval0
  have hW' := hW
  obtain ⟨p, q, hA0, hV, rfl, hfz, hnd⟩ := hW
  have hA : DataW.TrodAll enc Try.prog W 0 (fun _ => true) true Try.f6.params.toList args.toList ds p := hA0
  rw [Try.params6] at hA hval
  obtain ⟨v0, vs0, d0, ds0, p0, q0, hargs0, rfl, rfl, h0, r0⟩ := trodAll_cons hA
  obtain ⟨v1, vs1, d1, ds1, p1, q1, hargs1, rfl, rfl, h1, r1⟩ := trodAll_cons r0
  obtain ⟨rfl, rfl, rfl⟩ := trodAll_nil r1
  obtain rfl : args = #[v0, v1] := by cases args; simp_all
  obtain ⟨rfl, rfl⟩ := trodVars_none hV
  have kk0 := h0
  have lt0 : ∀ x ∈ p0, x.block < W.heap.size := by obtain ⟨m, hm⟩ := kk0; exact DataW.trod_lt m _ _ _ hm
  obtain ⟨a0, len0, cap0, rfl⟩ := okWide_slice Try.underlying22 (hval 0 22 v0 rfl rfl)
  obtain ⟨z0, hz0⟩ : ∃ zs : List Pt, VRel (k0 W) W (pts zs) (.slice a0 len0 cap0) := by
    obtain ⟨fuel, hf⟩ := h0
    rcases open_pts Try.underlying22 Try.underlying24 (by kernel_rfl) rfl rfl rfl rfl rfl rfl Try.underlying3 (by kernel_rfl) hf with hcs | ⟨a, len, cap, zs, hcs, hl, hm, hz, hcell⟩
    · simp [Value.cells] at hcs
      obtain ⟨rfl, rfl, rfl⟩ := hcs
      exact ⟨[], rel_nil W⟩
    · simp [Value.cells] at hcs
      obtain ⟨rfl, rfl, rfl⟩ := hcs
      exact ⟨zs, rel_pts hl hz hcell⟩
  have kk1 := h1
  have lt1 : ∀ x ∈ p1, x.block < W.heap.size := by obtain ⟨m, hm⟩ := kk1; exact DataW.trod_lt m _ _ _ hm
  obtain ⟨a1, len1, cap1, rfl⟩ := okWide_slice Try.underlying22 (hval 1 22 v1 rfl rfl)
  obtain ⟨z1, hz1⟩ : ∃ zs : List Pt, VRel (k0 W) W (pts zs) (.slice a1 len1 cap1) := by
    obtain ⟨fuel, hf⟩ := h1
    rcases open_pts Try.underlying22 Try.underlying24 (by kernel_rfl) rfl rfl rfl rfl rfl rfl Try.underlying3 (by kernel_rfl) hf with hcs | ⟨a, len, cap, zs, hcs, hl, hm, hz, hcell⟩
    · simp [Value.cells] at hcs
      obtain ⟨rfl, rfl, rfl⟩ := hcs
      exact ⟨[], rel_nil W⟩
    · simp [Value.cells] at hcs
      obtain ⟨rfl, rfl, rfl⟩ := hcs
      exact ⟨zs, rel_pts hl hz hcell⟩
  clear hA0 hval0 hsz0
  refine (law_calls (hC z0 z1) (w := W) (vs := #[.slice a0 len0 cap0, .slice a1 len1 cap1]) rfl (fun i x v hx hv => ?_)).mono fun e W' ⟨he, bel⟩ => ?_
  · match i with
    | 0 => simp at hx hv; subst hx hv; exact hz0
    | 1 => simp at hx hv; subst hx hv; exact hz1
    | i + 2 => simp at hx
  subst he
  exact ⟨_, rfl, _, _, _, [], _, [], hW', trodAll_mk1 (shut_bool Try.underlying4 _), (trodAll_cons_mk (Below.trod laidOut (by kernel_rfl) (of_decide_eq_true (by kernel_rfl)) kk0 bel lt0) (trodAll_cons_mk (Below.trod laidOut (by kernel_rfl) (of_decide_eq_true (by kernel_rfl)) kk1 bel lt1) trodAll_mk0)), rfl, bel.frame _, fun h => by cases h⟩
theorem over (hC : Contract) : Rows.hullDividesRow.holds Try.pinned (OpenSpec.ofChange Rows.hullDividesSpec) :=
  OpenClaim.holds_of_wide 6 Try.f6 rfl rfl rfl rfl rfl rfl rfl ⟨rfl, rfl, rfl, rfl, rfl⟩ rfl rfl rfl rfl rfl (by kernel_rfl) Try.func6 (by kernel_rfl)
    (of_decide_eq_true (by kernel_rfl)) (by unfold Func.isWrapper; first | (rw [if_pos (by decide +kernel)]; kernel_rfl) | (rw [if_neg (by decide +kernel)]; exact ⟨rfl, rfl⟩))
    (fun os started H enc _ => lifted hC os started H enc)
end Go.Hull.Divides
end
section
set_option linter.unusedSimpArgs false
set_option linter.unusedVariables false
namespace Go.Hull
open Go Go.Am Go.Proofs

theorem wr (n : Int) (h1 : -4611686018427387904 ≤ n) (h2 : n ≤ 4611686018427387904) : IntKind.i64.wrap n = n := IntWalk.i64_in _ (by omega)
theorem okP_iff {p : Pt} : okP p = true ↔ (-100000 ≤ p.1 ∧ p.1 ≤ 100000) ∧ (-100000 ≤ p.2 ∧ p.2 ≤ 100000) := by simp [okP, ok1]
theorem mul_bd {x y : Int} (h1 : -200000 ≤ x) (h2 : x ≤ 200000) (h3 : -200000 ≤ y) (h4 : y ≤ 200000) : -40000000000 ≤ x * y ∧ x * y ≤ 40000000000 := by
  have a1 := Int.mul_nonneg (show (0 : Int) ≤ 200000 - x by omega) (show (0 : Int) ≤ 200000 + y by omega)
  have a2 := Int.mul_nonneg (show (0 : Int) ≤ 200000 + x by omega) (show (0 : Int) ≤ 200000 - y by omega)
  have a3 := Int.mul_nonneg (show (0 : Int) ≤ 200000 - x by omega) (show (0 : Int) ≤ 200000 - y by omega)
  have a4 := Int.mul_nonneg (show (0 : Int) ≤ 200000 + x by omega) (show (0 : Int) ≤ 200000 + y by omega)
  simp only [Int.sub_mul, Int.add_mul, Int.mul_sub, Int.mul_add] at a1 a2 a3 a4
  have e : x * 200000 = 200000 * x := Int.mul_comm _ _
  omega
def sub (p q : Pt) : Pt := (p.1 - q.1, p.2 - q.2)
def turn (u v : Pt) : Int := u.1 * v.2 - u.2 * v.1
def left (p q r : Pt) : Int := turn (sub q p) (sub r p)
def before (p q : Pt) : Bool := decide (p.1 < q.1) || (p.1 == q.1 && decide (p.2 < q.2))
theorem c75 {p q : Pt} (hp : okP p = true) (hq : okP q = true) : CallsF Try.prog 75 [pt p, pt q] [] (pt (sub p q)) [] := by
  obtain ⟨⟨a1, a2⟩, a3, a4⟩ := okP_iff.1 hp
  obtain ⟨⟨b1, b2⟩, b3, b4⟩ := okP_iff.1 hq
  have e1 := wr (p.1 - q.1) (by omega) (by omega)
  have e2 := wr (p.2 - q.2) (by omega) (by omega)
  refine callsF_cw hm hf75 (by simp [cf75]) ?_
  simp only [cf75, argsAl]
  unfold pt
  refine CW.rI fun K hK => ?_
  simp (maxSteps := 4000000) only [amC, amR, setO, Am.set, dr3, dr4, AV.elem, AV.cells, AV.one, loadAV, faddrAV, binAV, storeAV, AV.putCells, AV.ref, if_true, if_false, Nat.reduceEqDiff, Nat.reduceAdd, Nat.reduceLT, Nat.reduceLeDiff, reduceCtorEq, ↓reduceIte, pickAV, lenAV, intAV, slcA, slcAV, iaddrAV, extAV, fldAV, eqCell, contAV, appendAV, maxI, minI, Option.some.injEq, catT, AV.cells, AV.elem, AV.one, List.all_cons, List.all_nil]
  refine hK _ _ nofun ?_
  clear hK K
  refine CW.rI fun K hK => ?_
  simp (maxSteps := 4000000) only [amC, amR, setO, Am.set, dr3, dr4, AV.elem, AV.cells, AV.one, loadAV, faddrAV, binAV, storeAV, AV.putCells, AV.ref, if_true, if_false, Nat.reduceEqDiff, Nat.reduceAdd, Nat.reduceLT, Nat.reduceLeDiff, reduceCtorEq, ↓reduceIte, pickAV, lenAV, intAV, slcA, slcAV, iaddrAV, extAV, fldAV, eqCell, contAV, appendAV, maxI, minI, Option.some.injEq, catT, AV.cells, AV.elem, AV.one, List.all_cons, List.all_nil, e1, e2, AV.putCells]
  refine hK _ _ nofun ?_
  clear hK K
  exact CW.ret (finK_pure (.inr rfl) (xs := [.agg [.int .i64 (p.1 - q.1), .int .i64 (p.2 - q.2)]]) (by simp [resRV, Am.get, loadAV, rowAt?, hget, AV.cells, loadCells']) rfl rfl)
def smallV (u : Pt) : Prop := (-200000 ≤ u.1 ∧ u.1 ≤ 200000) ∧ (-200000 ≤ u.2 ∧ u.2 ≤ 200000)
theorem sub_small {p q : Pt} (hp : okP p = true) (hq : okP q = true) : smallV (sub p q) := by
  obtain ⟨⟨a1, a2⟩, a3, a4⟩ := okP_iff.1 hp
  obtain ⟨⟨b1, b2⟩, b3, b4⟩ := okP_iff.1 hq
  simp only [smallV, sub]
  omega
theorem c74 {u v : Pt} (hu : smallV u) (hv : smallV v) : CallsF Try.prog 74 [pt u, pt v] [] (.int .i64 (turn u v)) [] := by
  obtain ⟨⟨a1, a2⟩, a3, a4⟩ := hu
  obtain ⟨⟨b1, b2⟩, b3, b4⟩ := hv
  have m1 := mul_bd a1 a2 b3 b4
  have m2 := mul_bd a3 a4 b1 b2
  have e1 := wr (u.1 * v.2) (by omega) (by omega)
  have e2 := wr (u.2 * v.1) (by omega) (by omega)
  have e3 := wr (u.1 * v.2 - u.2 * v.1) (by omega) (by omega)
  refine callsF_cw hm hf74 (by simp [cf74]) ?_
  simp only [cf74, argsAl]
  unfold pt
  refine CW.rI fun K hK => ?_
  simp (maxSteps := 4000000) only [amC, amR, setO, Am.set, dr3, dr4, AV.elem, AV.cells, AV.one, loadAV, faddrAV, binAV, storeAV, AV.putCells, AV.ref, if_true, if_false, Nat.reduceEqDiff, Nat.reduceAdd, Nat.reduceLT, Nat.reduceLeDiff, reduceCtorEq, ↓reduceIte, pickAV, lenAV, intAV, slcA, slcAV, iaddrAV, extAV, fldAV, eqCell, contAV, appendAV, maxI, minI, Option.some.injEq, catT, AV.cells, AV.elem, AV.one, List.all_cons, List.all_nil]
  refine hK _ _ nofun ?_
  clear hK K
  refine CW.rI fun K hK => ?_
  simp (maxSteps := 4000000) only [amC, amR, setO, Am.set, dr3, dr4, AV.elem, AV.cells, AV.one, loadAV, faddrAV, binAV, storeAV, AV.putCells, AV.ref, if_true, if_false, Nat.reduceEqDiff, Nat.reduceAdd, Nat.reduceLT, Nat.reduceLeDiff, reduceCtorEq, ↓reduceIte, pickAV, lenAV, intAV, slcA, slcAV, iaddrAV, extAV, fldAV, eqCell, contAV, appendAV, maxI, minI, Option.some.injEq, catT, AV.cells, e1, e2, e3]
  refine hK _ _ nofun ?_
  clear hK K
  exact CW.ret (finK_pure (.inr rfl) (xs := [.int .i64 (turn u v)]) (by simp [resRV, Am.get, turn]) rfl rfl)
theorem c33 {p q r : Pt} (hp : okP p = true) (hq : okP q = true) (hr : okP r = true) : CallsF Try.prog 33 [pt p, pt q, pt r] [] (.int .i64 (left p q r)) [] := by
  refine callsF_cw hm hf33 (by simp [cf33]) ?_
  simp only [cf33, argsAl]
  unfold pt
  refine CW.rI fun K hK => ?_
  simp (maxSteps := 4000000) only [amC, amR, setO, Am.set, dr3, dr4, AV.elem, AV.cells, AV.one, loadAV, faddrAV, binAV, storeAV, AV.putCells, AV.ref, if_true, if_false, Nat.reduceEqDiff, Nat.reduceAdd, Nat.reduceLT, Nat.reduceLeDiff, reduceCtorEq, ↓reduceIte, pickAV, lenAV, intAV, slcA, slcAV, iaddrAV, extAV, fldAV, eqCell, contAV, appendAV, maxI, minI, Option.some.injEq, catT, AV.cells, AV.elem, AV.one, List.all_cons, List.all_nil]
  refine hK _ _ nofun ?_
  clear hK K
  refine CW.rI fun K hK => ?_
  simp (maxSteps := 4000000) only [amC, amR, setO, Am.set, dr3, dr4, AV.elem, AV.cells, AV.one, loadAV, faddrAV, binAV, storeAV, AV.putCells, AV.ref, if_true, if_false, Nat.reduceEqDiff, Nat.reduceAdd, Nat.reduceLT, Nat.reduceLeDiff, reduceCtorEq, ↓reduceIte, pickAV, lenAV, intAV, slcA, slcAV, iaddrAV, extAV, fldAV, eqCell, contAV, appendAV, maxI, minI, Option.some.injEq, catT, AV.cells]
  refine RunCall.view (fid := 75) (caps := []) rfl rfl rfl (c75 hq hp) rfl ?_
  simp (maxSteps := 4000000) only [amC, amR, setO, Am.set, dr3, dr4, AV.elem, AV.cells, AV.one, loadAV, faddrAV, binAV, storeAV, AV.putCells, AV.ref, if_true, if_false, Nat.reduceEqDiff, Nat.reduceAdd, Nat.reduceLT, Nat.reduceLeDiff, reduceCtorEq, ↓reduceIte, pickAV, lenAV, intAV, slcA, slcAV, iaddrAV, extAV, fldAV, eqCell, contAV, appendAV, maxI, minI, Option.some.injEq, catT, AV.cells]
  refine RunCall.view (fid := 75) (caps := []) rfl rfl rfl (c75 hr hp) rfl ?_
  simp (maxSteps := 4000000) only [amC, amR, setO, Am.set, dr3, dr4, AV.elem, AV.cells, AV.one, loadAV, faddrAV, binAV, storeAV, AV.putCells, AV.ref, if_true, if_false, Nat.reduceEqDiff, Nat.reduceAdd, Nat.reduceLT, Nat.reduceLeDiff, reduceCtorEq, ↓reduceIte, pickAV, lenAV, intAV, slcA, slcAV, iaddrAV, extAV, fldAV, eqCell, contAV, appendAV, maxI, minI, Option.some.injEq, catT, AV.cells]
  refine RunCall.view (fid := 74) (caps := []) rfl rfl rfl (c74 (sub_small hq hp) (sub_small hr hp)) rfl ?_
  simp (maxSteps := 4000000) only [amC, amR, setO, Am.set, dr3, dr4, AV.elem, AV.cells, AV.one, loadAV, faddrAV, binAV, storeAV, AV.putCells, AV.ref, if_true, if_false, Nat.reduceEqDiff, Nat.reduceAdd, Nat.reduceLT, Nat.reduceLeDiff, reduceCtorEq, ↓reduceIte, pickAV, lenAV, intAV, slcA, slcAV, iaddrAV, extAV, fldAV, eqCell, contAV, appendAV, maxI, minI, Option.some.injEq, catT]
  refine hK _ _ (fun _ => rfl) ?_
  clear hK K
  exact CW.ret (finK_pure (.inr rfl) (xs := [.int .i64 (left p q r)]) (by simp [resRV, Am.get, left]) rfl rfl)
theorem c57' {p q : Pt} (hp : okP p = true) (hq : okP q = true) : CallsF Try.prog 57 [pt p, pt q] [] (pt (sub p q)) [] := by
  obtain ⟨⟨a1, a2⟩, a3, a4⟩ := okP_iff.1 hp
  obtain ⟨⟨b1, b2⟩, b3, b4⟩ := okP_iff.1 hq
  have e1 := wr (p.1 - q.1) (by omega) (by omega)
  have e2 := wr (p.2 - q.2) (by omega) (by omega)
  refine callsF_cw hm hf57 (by simp [cf57]) ?_
  simp only [cf57, argsAl]
  unfold pt
  refine CW.rI fun K hK => ?_
  simp (maxSteps := 4000000) only [amC, amR, setO, Am.set, dr3, dr4, AV.elem, AV.cells, AV.one, loadAV, faddrAV, binAV, storeAV, AV.putCells, AV.ref, if_true, if_false, Nat.reduceEqDiff, Nat.reduceAdd, Nat.reduceLT, Nat.reduceLeDiff, reduceCtorEq, ↓reduceIte, pickAV, lenAV, intAV, slcA, slcAV, iaddrAV, extAV, fldAV, eqCell, contAV, appendAV, maxI, minI, Option.some.injEq, catT, AV.cells, AV.elem, AV.one, List.all_cons, List.all_nil]
  refine hK _ _ nofun ?_
  clear hK K
  refine CW.rI fun K hK => ?_
  simp (maxSteps := 4000000) only [amC, amR, setO, Am.set, dr3, dr4, AV.elem, AV.cells, AV.one, loadAV, faddrAV, binAV, storeAV, AV.putCells, AV.ref, if_true, if_false, Nat.reduceEqDiff, Nat.reduceAdd, Nat.reduceLT, Nat.reduceLeDiff, reduceCtorEq, ↓reduceIte, pickAV, lenAV, intAV, slcA, slcAV, iaddrAV, extAV, fldAV, eqCell, contAV, appendAV, maxI, minI, Option.some.injEq, catT, AV.cells, AV.elem, AV.one, List.all_cons, List.all_nil, e1, e2, AV.putCells]
  refine hK _ _ nofun ?_
  clear hK K
  exact CW.ret (finK_pure (.inr rfl) (xs := [.agg [.int .i64 (p.1 - q.1), .int .i64 (p.2 - q.2)]]) (by simp [resRV, Am.get, loadAV, rowAt?, hget, AV.cells, loadCells']) rfl rfl)
end Go.Hull
end
section
set_option linter.unusedSimpArgs false
set_option linter.unusedVariables false
namespace Go.Hull
open Go Go.Am Go.Proofs

def cmpI (x y : Int) : Int := if x < y then -1 else if y < x then 1 else 0
def cmpP (p q : Pt) : Int := if cmpI p.1 q.1 ≠ 0 then cmpI p.1 q.1 else cmpI p.2 q.2
end Go.Hull
end
section
set_option linter.unusedSimpArgs false
set_option linter.unusedVariables false
set_option maxHeartbeats 2000000
namespace Go.Hull
open Go Go.Am Go.Proofs

def ix (xs : List Nat) : List AV := xs.map fun (n : Nat) => .int .i64 (n : Int)
theorem ix_length (xs : List Nat) : (ix xs).length = xs.length := by simp [ix]
theorem ix_get (xs : List Nat) {i : Nat} (h : i < xs.length) : (ix xs)[i]? = some (.int .i64 ((xs.getD i 0 : Nat) : Int)) := by
  simp [ix, List.getD_eq_getElem?_getD, List.getElem?_eq_getElem h]
theorem ix_take (xs : List Nat) (n : Nat) : (ix xs).take n = ix (xs.take n) := by simp [ix]
theorem ix_drop (xs : List Nat) (n : Nat) : (ix xs).drop n = ix (xs.drop n) := by simp [ix]
theorem ltL_ix (xs : List Nat) (m : Nat) : ltL m (ix xs) = true := by
  induction xs with
  | nil => rfl
  | cons x xs ih => simp only [ix, List.map_cons, ltL, AV.lt, Bool.true_and]; exact ih
theorem allRL_ix (xs : List Nat) (p : Nat → Nat → Bool) (q : Bool) : allRL p q (ix xs) = true := by
  induction xs with
  | nil => rfl
  | cons x xs ih => simp only [ix, List.map_cons, allRL, AV.allR, Bool.true_and]; exact ih
def lessB (l : List Pt) (a b : Nat) : Bool := decide (cmpP (l.getD a (0, 0)) (l.getD b (0, 0)) < 0)
def inner (lt : Nat → Nat → Bool) : Nat → List Nat → List Nat
  | 0, xs => xs
  | j + 1, xs => if lt (xs.getD (j + 1) 0) (xs.getD j 0) = true then inner lt j ((xs.set (j + 1) (xs.getD j 0)).set j (xs.getD (j + 1) 0)) else xs
def outer (lt : Nat → Nat → Bool) : Nat → Nat → List Nat → List Nat
  | 0, _, xs => xs
  | k + 1, i, xs => outer lt k (i + 1) (inner lt i xs)
def insort (lt : Nat → Nat → Bool) (xs : List Nat) : List Nat := outer lt (xs.length - 1) 1 xs
theorem inner_length (lt : Nat → Nat → Bool) : ∀ (j : Nat) (xs : List Nat), (inner lt j xs).length = xs.length := by
  intro j
  induction j with
  | zero => intro xs; rfl
  | succ j ih => intro xs; simp only [inner]; split <;> simp [ih]
theorem inner_mem (lt : Nat → Nat → Bool) {n : Nat} : ∀ (j : Nat) (xs : List Nat), j < xs.length → (∀ x ∈ xs, x < n) → ∀ x ∈ inner lt j xs, x < n := by
  intro j
  induction j with
  | zero => intro xs _ h; exact h
  | succ j ih =>
    intro xs hj h
    simp only [inner]
    split
    · refine ih _ (by simp; omega) fun x hx => ?_
      have g : ∀ k, k < xs.length → xs.getD k 0 < n := fun k hk => h _ (by rw [List.getD_eq_getElem?_getD, List.getElem?_eq_getElem hk]; simp)
      rcases List.mem_or_eq_of_mem_set hx with h1 | h1
      · rcases List.mem_or_eq_of_mem_set h1 with h2 | h2
        · exact h x h2
        · rw [h2]; exact g j (by omega)
      · rw [h1]; exact g (j + 1) hj
    · exact h
theorem flat_rp (l : List Pt) : flatN true 5 (.rp true [pts l]) = true := by
  simp only [flatN, allB, flat_pts l 1]
theorem getp {l : List Pt} {k : Nat} (h : k < l.length) : l[k]? = some (l.getD k (0, 0)) := by
  simp [List.getD_eq_getElem?_getD, List.getElem?_eq_getElem h]
theorem getD_lt {n : Nat} {xs : List Nat} (h : ∀ x ∈ xs, x < n) {k : Nat} (hk : k < xs.length) : xs.getD k 0 < n := h _ (by rw [List.getD_eq_getElem?_getD, List.getElem?_eq_getElem hk]; simp)
end Go.Hull
end
section
set_option linter.unusedSimpArgs false
set_option linter.unusedVariables false
set_option maxHeartbeats 2000000
namespace Go.Hull
open Go Go.Am Go.Proofs

theorem insort_length (lt : Nat → Nat → Bool) (xs : List Nat) : (insort lt xs).length = xs.length := by
  have : ∀ (k i : Nat) (ys : List Nat), (outer lt k i ys).length = ys.length := by
    intro k
    induction k with
    | zero => intro i ys; rfl
    | succ k ih => intro i ys; simp only [outer]; rw [ih, inner_length]
  exact this _ _ _
theorem flat_cl (l : List Pt) (f : Nat) : flatN true 5 (.clo f [.rp true [pts l]]) = true := by
  simp only [flatN, allB, flat_pts l 0]
/-- The numbers of a list's points, in the points' order. -/
def orderI (l : List Pt) : List Nat := insort (lessB l) (List.range l.length)
end Go.Hull
end
section
set_option linter.unusedSimpArgs false
set_option linter.unusedVariables false
set_option maxHeartbeats 2000000
namespace Go.Hull
open Go Go.Am Go.Proofs

def eqP (p q : Pt) : Bool := (p.1 == q.1) && ((p.2 == q.2) && true)
def rv (n : Nat) : Nat → Nat → List Nat → List Nat
  | 0, _, xs => xs
  | f + 1, i, xs => if i < n - 1 - i then rv n f (i + 1) ((xs.set i (xs.getD (n - 1 - i) 0)).set (n - 1 - i) (xs.getD i 0)) else xs
/-- The top of the stack stands first. -/
def pop (l : List Pt) (i : Nat) : List Nat → List Nat
  | b :: a :: r => if left (l.getD a (0, 0)) (l.getD b (0, 0)) (l.getD i (0, 0)) ≤ 0 then pop l i (a :: r) else b :: a :: r
  | st => st
def chainS (l : List Pt) (ord : List Nat) : List Nat := ord.foldl (fun st i => i :: pop l i st) []
theorem pop_mem {l : List Pt} {i n : Nat} : ∀ (st : List Nat), (∀ x ∈ st, x < n) → ∀ x ∈ pop l i st, x < n := by
  intro st
  induction st with
  | nil => intro h; exact h
  | cons b st ih =>
    intro h
    cases st with
    | nil => exact h
    | cons a r =>
      simp only [pop]
      split
      · exact ih fun x hx => h x (by simp [hx])
      · exact h
end Go.Hull
end
section
set_option linter.unusedSimpArgs false
set_option linter.unusedVariables false
set_option maxHeartbeats 2000000
namespace Go.Hull
open Go Go.Am Go.Proofs

theorem elem_int (k : IntKind) (n : Int) : (AV.int k n).elem = true := rfl
theorem all_ok {l : List Pt} (h : l.all okP = true) {k : Nat} (hk : k < l.length) : okP (l.getD k (0, 0)) = true :=
  List.all_eq_true.1 h _ (List.mem_of_getElem? (getp hk))
end Go.Hull
end
section
set_option linter.unusedSimpArgs false
set_option linter.unusedVariables false
set_option maxHeartbeats 2000000
namespace Go.Hull
open Go Go.Am Go.Proofs

def sameB (l : List Pt) (a b : Nat) : Bool := eqP (l.getD a (0, 0)) (l.getD b (0, 0))
/-- The second half of leaving out: k0 is where the first equal one stands. -/
def compIn (eq : Nat → Nat → Bool) (k0 : Nat) : Nat → Nat → Nat → List Nat → List Nat × Nat
  | 0, _, k, xs => (xs, k)
  | f + 1, k2, k, xs => if eq (xs.getD (k0 + k2) 0) (xs.getD (k0 + k2 - 1) 0) = true then compIn eq k0 f (k2 + 1) k xs else compIn eq k0 f (k2 + 1) (k + 1) (xs.set k (xs.getD (k0 + k2) 0))
def zeroed (n : Nat) (q : List Nat × Nat) : List Nat × Nat := (q.1.take q.2 ++ List.replicate (n - q.2) 0, q.2)
def compOut (eq : Nat → Nat → Bool) : Nat → Nat → List Nat → List Nat × Nat
  | 0, _, xs => (xs, xs.length)
  | f + 1, k, xs => if eq (xs.getD k 0) (xs.getD (k - 1) 0) = true then zeroed xs.length (compIn eq k (xs.length - k - 1) 1 k xs) else compOut eq f (k + 1) xs
def compact (eq : Nat → Nat → Bool) (xs : List Nat) : List Nat × Nat := if xs.length < 2 then (xs, xs.length) else compOut eq (xs.length - 1) 1 xs
theorem ix_append (xs ys : List Nat) : ix xs ++ ix ys = ix (xs ++ ys) := by simp [ix]
end Go.Hull
end
section
set_option linter.unusedSimpArgs false
set_option linter.unusedVariables false
set_option maxHeartbeats 2000000
namespace Go.Hull
open Go Go.Am Go.Proofs

theorem optL_self {f : AV → Option (AV × List Nat)} : ∀ (l : List AV), (∀ x ∈ l, f x = some (x, [])) → optL f l = some (l.map fun x => (x, [])) := by
  intro l
  induction l with
  | nil => intro _; rfl
  | cons x l ih => intro h; simp only [optL, h x (by simp), ih (fun y hy => h y (by simp [hy])), List.map_cons]
theorem catT_nil : ∀ (l : List AV), catT (l.map fun x => (x, ([] : List Nat))) = [] := by
  intro l
  induction l with
  | nil => rfl
  | cons x l ih => simp only [List.map_cons, catT, ih, List.append_nil]
theorem viewG_ix {hl : List Blk} {b g i k : Nat} {nil frz : Bool} {xs : List Nat} (hb : hget hl b = .row nil g frz 1 (ix xs)) (h : i + k ≤ xs.length) : viewG hl 6 (.sl b g i k) = some (.sv false 1 (ix ((xs.drop i).take k)), [b]) := by
  have he : ((ix xs).drop i).take k = ix ((xs.drop i).take k) := by rw [ix_drop, ix_take]
  have h1 : optL (viewG hl 5) (ix ((xs.drop i).take k)) = some ((ix ((xs.drop i).take k)).map fun x => (x, [])) := optL_self _ fun x hx => by
    obtain ⟨n, -, rfl⟩ := List.mem_map.1 hx
    exact viewG_flat rfl 4
  have h2 : (((ix ((xs.drop i).take k)).map fun x => (x, ([] : List Nat))).all fun y => Nat.beq y.1.cells.length 1) = true := by
    rw [List.all_eq_true]
    intro y hy
    obtain ⟨x, hx, rfl⟩ := List.mem_map.1 hy
    obtain ⟨n, -, rfl⟩ := List.mem_map.1 hx
    rfl
  have hc : True ∧ i + k ≤ (ix xs).length := ⟨trivial, by rw [ix_length]; exact h⟩
  unfold viewG
  simp only [flatN, AV.lt, Nat.not_lt_zero, decide_false, Bool.false_eq_true, if_false, hb]
  rw [if_pos hc]
  simp only [he, h1, h2, if_true, List.map_map, Function.comp_def, List.map_id', catT_nil]
theorem viewArgs2 {hl : List Blk} {x y x' y' : AV} {T T' : List Nat} (h1 : viewG hl 6 x = some (x', T)) (h2 : viewG hl 6 y = some (y', T')) : viewArgs hl [x, y] = some ([x', y'], T ++ T') := by
  simp only [viewArgs, h1, h2, List.append_nil]
/-- The numbers of the different points, in order, with zeros behind. -/
def compI (l : List Pt) : List Nat × Nat := compact (sameB l) (orderI l)
def distI (l : List Pt) : List Nat := (compI l).1.take (compI l).2
theorem outer_mem (lt : Nat → Nat → Bool) {n : Nat} : ∀ (k i : Nat) (xs : List Nat), i + k ≤ xs.length → (∀ x ∈ xs, x < n) → ∀ x ∈ outer lt k i xs, x < n := by
  intro k
  induction k with
  | zero => intro i xs _ h; exact h
  | succ k ih =>
    intro i xs hi h
    simp only [outer]
    exact ih (i + 1) _ (by rw [inner_length]; omega) (inner_mem lt i xs (by omega) h)
theorem orderI_mem (l : List Pt) : ∀ x ∈ orderI l, x < l.length := by
  unfold orderI insort
  by_cases h : l.length = 0
  · rw [h]; intro x hx; simp [outer] at hx
  · exact outer_mem _ _ _ _ (by simp; omega) (fun x hx => List.mem_range.1 hx)
theorem orderI_length (l : List Pt) : (orderI l).length = l.length := by unfold orderI; rw [insort_length, List.length_range]
theorem compIn_spec (eq : Nat → Nat → Bool) {n : Nat} (k0 : Nat) : ∀ (f k2 k : Nat) (xs : List Nat), k < k0 + k2 → k0 + k2 + f ≤ xs.length → (∀ x ∈ xs, x < n) → (compIn eq k0 f k2 k xs).1.length = xs.length ∧ (∀ x ∈ (compIn eq k0 f k2 k xs).1, x < n) ∧ (compIn eq k0 f k2 k xs).2 ≤ k + f ∧ k ≤ (compIn eq k0 f k2 k xs).2 := by
  intro f
  induction f with
  | zero => intro k2 k xs _ _ h; exact ⟨rfl, h, Nat.le_refl _, Nat.le_refl _⟩
  | succ f ih =>
    intro k2 k xs hk hf h
    simp only [compIn]
    split
    · obtain ⟨a1, a2, a3, a4⟩ := ih (k2 + 1) k xs (by omega) (by omega) h
      exact ⟨a1, a2, by omega, a4⟩
    · obtain ⟨a1, a2, a3, a4⟩ := ih (k2 + 1) (k + 1) (xs.set k (xs.getD (k0 + k2) 0)) (by omega) (by simp; omega) (fun x hx => by
        rcases List.mem_or_eq_of_mem_set hx with h1 | h1
        · exact h x h1
        · rw [h1]; exact getD_lt h (by omega))
      exact ⟨by simpa using a1, a2, by omega, by omega⟩
theorem compOut_spec (eq : Nat → Nat → Bool) {n : Nat} (hn : 0 < n) : ∀ (f k : Nat) (xs : List Nat), 1 ≤ k → k + f ≤ xs.length → (∀ x ∈ xs, x < n) → (compOut eq f k xs).1.length = xs.length ∧ (∀ x ∈ (compOut eq f k xs).1, x < n) ∧ (compOut eq f k xs).2 ≤ xs.length ∧ (1 ≤ xs.length → 1 ≤ (compOut eq f k xs).2) := by
  intro f
  induction f with
  | zero => intro k xs _ _ h; exact ⟨rfl, h, Nat.le_refl _, id⟩
  | succ f ih =>
    intro k xs hk hf h
    simp only [compOut]
    split
    · obtain ⟨a1, a2, a3, a4⟩ := compIn_spec eq k (xs.length - k - 1) 1 k xs (by omega) (by omega) h
      refine ⟨?_, fun x hx => ?_, by simp only [zeroed]; omega, fun _ => by simp only [zeroed]; omega⟩
      · simp only [zeroed, List.length_append, List.length_take, List.length_replicate, a1]; omega
      · simp only [zeroed] at hx
        rcases List.mem_append.1 hx with h1 | h1
        · exact a2 x (List.mem_of_mem_take h1)
        · rw [List.eq_of_mem_replicate h1]; exact hn
    · exact ih (k + 1) xs (by omega) (by omega) h
theorem compI_spec {l : List Pt} (hl : 0 < l.length) : (compI l).1.length = l.length ∧ (∀ x ∈ (compI l).1, x < l.length) ∧ (compI l).2 ≤ l.length ∧ 1 ≤ (compI l).2 := by
  unfold compI compact
  have h1 := orderI_length l
  split
  · exact ⟨h1, orderI_mem l, by simp only; omega, by simp only; omega⟩
  · obtain ⟨a1, a2, a3, a4⟩ := compOut_spec (sameB l) hl ((orderI l).length - 1) 1 (orderI l) (Nat.le_refl _) (by omega) (orderI_mem l)
    exact ⟨by rw [a1, h1], a2, by omega, a4 (by omega)⟩
theorem rv_length (n : Nat) : ∀ (f i : Nat) (xs : List Nat), (rv n f i xs).length = xs.length := by
  intro f
  induction f with
  | zero => intro i xs; rfl
  | succ f ih => intro i xs; simp only [rv]; split <;> simp [ih]
/-- The vertices, as they are found. -/
def revI (l : List Pt) : List Nat := (rv (compI l).2 (compI l).2 0 (compI l).1).take (compI l).2
def hullI (l : List Pt) : List Nat :=
  if (compI l).2 < 3 then distI l
  else ((chainS l (distI l)).reverse.take ((chainS l (distI l)).length - 1)) ++ ((chainS l (revI l)).reverse.take ((chainS l (revI l)).length - 1))
theorem distI_length {l : List Pt} (hl : 0 < l.length) : (distI l).length = (compI l).2 := by
  obtain ⟨a1, a2, a3, a4⟩ := compI_spec hl
  unfold distI; rw [List.length_take, a1]; omega
theorem all_ix (xs : List Nat) : (ix xs).all AV.elem = true := by
  rw [List.all_eq_true]
  intro x hx
  obtain ⟨n, -, rfl⟩ := List.mem_map.1 hx
  rfl
end Go.Hull
end
section
set_option linter.unusedVariables false
namespace Go.Hull

def Lp (u : Pt) : Prop := 0 < u.1 ∨ (u.1 = 0 ∧ 0 < u.2)
theorem before_iff {p q : Pt} : before p q = true ↔ Lp (sub q p) := by
  simp only [before, Lp, sub, Bool.or_eq_true, Bool.and_eq_true, decide_eq_true_eq, beq_iff_eq]
  omega
theorem before_irrefl (p : Pt) : before p p = false := by
  cases h : before p p with
  | false => rfl
  | true => rw [before_iff] at h; simp only [Lp, sub] at h; omega
theorem before_trans {p q r : Pt} (h1 : before p q = true) (h2 : before q r = true) : before p r = true := by
  rw [before_iff] at *; simp only [Lp, sub] at *; omega
theorem before_asymm {p q : Pt} (h1 : before p q = true) : before q p = false := by
  cases h : before q p with
  | false => rfl
  | true => have := before_trans h1 h; rw [before_irrefl] at this; cases this
theorem before_total (p q : Pt) : p = q ∨ before p q = true ∨ before q p = true := by
  simp only [before, Bool.or_eq_true, Bool.and_eq_true, decide_eq_true_eq, beq_iff_eq]
  by_cases h1 : p.1 = q.1
  · by_cases h2 : p.2 = q.2
    · exact .inl (Prod.ext h1 h2)
    · omega
  · omega
theorem turn_trans {u v w : Pt} (hu : Lp u) (hv : Lp v) (hw : Lp w) (h1 : 0 ≤ turn u v) (h2 : 0 ≤ turn v w) : 0 ≤ turn u w := by
  obtain ⟨a, b⟩ := u
  obtain ⟨c, d⟩ := v
  obtain ⟨e, f⟩ := w
  simp only [Lp, turn] at *
  have ha : 0 ≤ a := by omega
  have he : 0 ≤ e := by omega
  rcases hv with hc | ⟨hc, hd⟩
  · have e1 : c * (a * f - b * e) = a * (c * f - d * e) + e * (a * d - b * c) := by grind
    have e2 := Int.mul_nonneg ha h2
    have e3 := Int.mul_nonneg he h1
    have e4 : 0 ≤ c * (a * f - b * e) := by omega
    exact Int.nonneg_of_mul_nonneg_right e4 hc
  · subst hc
    have e0 : e = 0 := by
      rcases Int.lt_or_eq_of_le he with h | h
      · have := Int.mul_pos hd h
        simp only [Int.zero_mul] at h2
        omega
      · exact h.symm
    subst e0
    have hf : 0 < f := by omega
    have := Int.mul_nonneg ha (Int.le_of_lt hf)
    simp only [Int.mul_zero]
    omega
theorem turn_zero {u v w : Pt} (hu : Lp u) (h1 : turn u v = 0) (h2 : turn u w = 0) : turn v w = 0 := by
  obtain ⟨a, b⟩ := u
  obtain ⟨c, d⟩ := v
  obtain ⟨e, f⟩ := w
  simp only [Lp, turn] at *
  have e1 : a * (c * f - d * e) = 0 := by grind
  have e2 : b * (c * f - d * e) = 0 := by grind
  rcases Int.mul_eq_zero.1 e1 with h | h
  · rcases Int.mul_eq_zero.1 e2 with h' | h'
    · omega
    · exact h'
  · exact h
theorem turn_anti (u v : Pt) : turn u v = - turn v u := by simp only [turn]; grind
theorem left_self2 (a b : Pt) : left a b b = 0 := by simp only [left, turn, sub]; grind
theorem left_self1 (a b : Pt) : left a b a = 0 := by simp only [left, turn, sub]; grind
theorem left_swap (a b c : Pt) : left b a c = - left a b c := by simp only [left, turn, sub]; grind
theorem left_eq (a b c : Pt) : left a b c = turn (sub b a) (sub c b) := by simp only [left, turn, sub]; grind
theorem left_eq' (a b c : Pt) : left a b c = - turn (sub b a) (sub b c) := by simp only [left, turn, sub]; grind
/-- A chain: from its last point back to its first. -/
inductive Chn (D : Pt → Prop) : List Pt → Prop where
  | one (p : Pt) : Chn D [p]
  | two {a b : Pt} : before a b = true → (∀ q, D q → 0 ≤ left a b q) → Chn D [b, a]
  | more {a b c : Pt} {r : List Pt} : before b c = true → (∀ q, D q → 0 ≤ left b c q) → 0 < left a b c → Chn D (b :: a :: r) → Chn D (c :: b :: a :: r)
theorem Chn.ext {D : Pt → Prop} {p : Pt} : ∀ {r : List Pt} {a b : Pt}, Chn D (b :: a :: r) → 0 ≤ left a b p → before b p = true → Chn (fun q => D q ∨ q = p) (b :: a :: r) := by
  intro r
  induction r with
  | nil =>
    intro a b h hl hb
    cases h with
    | two h1 h2 =>
      refine .two h1 fun q hq => ?_
      rcases hq with hq | rfl
      · exact h2 q hq
      · exact hl
  | cons c r ih =>
    intro a b h hl hb
    cases h with
    | more h1 h2 h3 h4 =>
      have h4' := h4
      have hca : before c a = true := by
        cases h4 with
        | two h _ => exact h
        | more h _ _ _ => exact h
      refine .more h1 (fun q hq => ?_) h3 (ih h4' ?_ (before_trans h1 hb))
      · rcases hq with hq | rfl
        · exact h2 q hq
        · exact hl
      · have k := turn_trans (u := sub a c) (v := sub b a) (w := sub p b) (before_iff.1 hca) (before_iff.1 h1) (before_iff.1 hb) (by rw [← left_eq]; omega) (by rw [← left_eq]; exact hl)
        have e : left c a p = left c a b + turn (sub a c) (sub p b) := by simp only [left, turn, sub]; grind
        omega
def popP (p : Pt) : List Pt → List Pt
  | b :: a :: r => if left a b p ≤ 0 then popP p (a :: r) else b :: a :: r
  | st => st
theorem popP_getLast (p : Pt) : ∀ (st : List Pt), (popP p st).getLast? = st.getLast? := by
  intro st
  induction st with
  | nil => rfl
  | cons b st ih =>
    cases st with
    | nil => rfl
    | cons a r =>
      simp only [popP]
      split
      · rw [ih, List.getLast?_cons_cons]
      · rfl
theorem popP_mem (p : Pt) : ∀ (st : List Pt), ∀ x ∈ popP p st, x ∈ st := by
  intro st
  induction st with
  | nil => intro x hx; exact hx
  | cons b st ih =>
    cases st with
    | nil => intro x hx; exact hx
    | cons a r =>
      intro x hx
      simp only [popP] at hx
      split at hx
      · exact List.mem_cons_of_mem _ (ih x hx)
      · exact hx
theorem Chn.push {D : Pt → Prop} {p : Pt} (hp : ∀ q, D q → before q p = true) : ∀ {st : List Pt}, Chn D st → (∀ x ∈ st, D x) →
    (∀ t, st.getLast? = some t → ∀ q, D q → q = t ∨ before t q = true) →
    (∀ t, st.head? = some t → ∀ q, D q → q = t ∨ before t q = true → 0 ≤ left t p q) →
    Chn (fun q => D q ∨ q = p) (p :: popP p st) := by
  intro st
  induction st with
  | nil => intro h; cases h
  | cons b st ih =>
    intro h hm hlast hT
    cases st with
    | nil =>
      simp only [popP]
      refine .two (hp b (hm b (by simp))) fun q hq => ?_
      rcases hq with hq | rfl
      · exact hT b rfl q hq (hlast b rfl q hq)
      · rw [left_self2]; exact Int.le_refl _
    | cons a r =>
      have hab : before a b = true ∧ (∀ q, D q → 0 ≤ left a b q) ∧ Chn D (a :: r) := by
        cases h with
        | two h1 h2 => exact ⟨h1, h2, .one a⟩
        | more h1 h2 h3 h4 => exact ⟨h1, h2, h4⟩
      obtain ⟨h1, h2, h3⟩ := hab
      have ha := hm a (by simp)
      have hb := hm b (by simp)
      simp only [popP]
      split
      · rename_i hc
        refine ih h3 (fun x hx => hm x (List.mem_cons_of_mem _ hx)) (fun t ht => hlast t (by rw [List.getLast?_cons_cons]; exact ht)) fun t ht q hq hqt => ?_
        simp only [List.head?_cons, Option.some.injEq] at ht
        subst ht
        rcases hqt with rfl | hqt
        · rw [left_self1]; exact Int.le_refl _
        · exact turn_trans (u := sub p a) (v := sub b a) (w := sub q a) (before_iff.1 (hp a ha)) (before_iff.1 h1) (before_iff.1 hqt) (by rw [turn_anti]; simp only [left] at hc; omega) (h2 q hq)
      · rename_i hc
        refine .more (hp b hb) (fun q hq => ?_) (by omega) (h.ext (by omega) (hp b hb))
        rcases hq with hq | rfl
        · rcases before_total q b with hqb | hqb | hqb
          · exact hT b rfl q hq (.inl hqb)
          · have e1 := h2 q hq
            have k := turn_trans (u := sub b q) (v := sub b a) (w := sub p b) (before_iff.1 hqb) (before_iff.1 h1) (before_iff.1 (hp b hb)) (by rw [left_eq'] at e1; rw [turn_anti]; exact e1) (by rw [← left_eq]; omega)
            have e : left b p q = turn (sub b q) (sub p b) := by simp only [left, turn, sub]; grind
            rw [e]; exact k
          · exact hT b rfl q hq (.inr hqb)
        · rw [left_self2]; exact Int.le_refl _
theorem Chn.mono {D D' : Pt → Prop} (h : ∀ q, D' q → D q) : ∀ {st : List Pt}, Chn D st → Chn D' st := by
  intro st hc
  induction hc with
  | one p => exact .one p
  | two h1 h2 => exact .two h1 fun q hq => h2 q (h q hq)
  | more h1 h2 h3 _ ih => exact .more h1 (fun q hq => h2 q (h q hq)) h3 ih
def chainP (ps : List Pt) : List Pt := ps.foldl (fun st p => p :: popP p st) []
structure Ready (don st : List Pt) : Prop where
  chn : Chn (· ∈ don) st
  mem : ∀ x ∈ st, x ∈ don
  last : ∀ t, st.getLast? = some t → ∀ q ∈ don, q = t ∨ before t q = true
  top : ∀ t, st.head? = some t → ∀ q ∈ don, q = t ∨ before q t = true
theorem Ready.push {don st : List Pt} {p : Pt} (h : Ready don st) (hp : ∀ q ∈ don, before q p = true) : Ready (don ++ [p]) (p :: popP p st) := by
  have hne : st ≠ [] := by intro e; have := h.chn; rw [e] at this; cases this
  refine ⟨?_, ?_, ?_, ?_⟩
  · refine (Chn.push (D := (· ∈ don)) hp h.chn h.mem h.last fun t ht q hq hqt => ?_).mono fun q hq => by simpa using hq
    rcases hqt with rfl | hqt
    · rw [left_self1]; exact Int.le_refl _
    · rcases h.top t ht q hq with rfl | h2
      · rw [left_self1]; exact Int.le_refl _
      · rw [before_asymm h2] at hqt; cases hqt
  · intro x hx
    rcases List.mem_cons.1 hx with rfl | hx
    · simp
    · exact List.mem_append_left _ (h.mem x (popP_mem p st x hx))
  · intro t ht q hq
    cases hpp : popP p st with
    | nil =>
      have := popP_getLast p st
      rw [hpp] at this
      exact absurd (List.getLast?_eq_none_iff.1 this.symm) hne
    | cons y ys =>
      rw [hpp, List.getLast?_cons_cons, ← hpp, popP_getLast] at ht
      rcases List.mem_append.1 hq with hq | hq
      · exact h.last t ht q hq
      · rw [List.mem_singleton.1 hq]
        exact .inr (hp t (h.mem t (List.mem_of_getLast? ht)))
  · intro t ht q hq
    simp only [List.head?_cons, Option.some.injEq] at ht
    subst ht
    rcases List.mem_append.1 hq with hq | hq
    · exact .inr (hp q hq)
    · exact .inl (List.mem_singleton.1 hq)
theorem ready_fold : ∀ (rest don st : List Pt), Ready don st → (don ++ rest).Pairwise (fun p q => before p q = true) → Ready (don ++ rest) (rest.foldl (fun st p => p :: popP p st) st) := by
  intro rest
  induction rest with
  | nil => intro don st h _; simpa using h
  | cons p rest ih =>
    intro don st h hp
    have e : don ++ p :: rest = (don ++ [p]) ++ rest := by simp
    rw [e] at hp ⊢
    exact ih (don ++ [p]) _ (h.push fun q hq => (List.pairwise_append.1 (List.pairwise_append.1 hp).1).2.2 q hq p (by simp)) hp
theorem ready_chain {ps : List Pt} (hne : ps ≠ []) (hp : ps.Pairwise (fun p q => before p q = true)) : Ready ps (chainP ps) := by
  cases ps with
  | nil => exact absurd rfl hne
  | cons p rest =>
    refine ready_fold rest [p] [p] ⟨.one p, fun x hx => hx, fun t ht q hq => ?_, fun t ht q hq => ?_⟩ hp
    · simp only [List.getLast?_singleton, Option.some.injEq] at ht
      exact .inl (by rw [List.mem_singleton.1 hq, ht])
    · simp only [List.head?_cons, Option.some.injEq] at ht
      exact .inl (by rw [List.mem_singleton.1 hq, ht])
end Go.Hull
end
section
set_option linter.unusedVariables false
namespace Go.Hull

structure Ch (D : Pt → Prop) (A : Nat → Pt) (x : Nat) : Prop where
  up : ∀ i, i < x → before (A i) (A (i + 1)) = true
  edge : ∀ i, i < x → ∀ q, D q → 0 ≤ left (A i) (A (i + 1)) q
  turns : ∀ i, i + 1 < x → 0 < left (A i) (A (i + 1)) (A (i + 2))
  mem : ∀ i, i ≤ x → D (A i)
  first : ∀ q, D q → q = A 0 ∨ before (A 0) q = true
  last : ∀ q, D q → q = A x ∨ before q (A x) = true
theorem Ch.lt {D : Pt → Prop} {A : Nat → Pt} {x : Nat} (h : Ch D A x) {i : Nat} : ∀ {k : Nat}, i < k → k ≤ x → before (A i) (A k) = true := by
  intro k
  induction k with
  | zero => intro h1; omega
  | succ k ih =>
    intro h1 h2
    by_cases hk : i = k
    · subst hk; exact h.up i (by omega)
    · exact before_trans (ih (by omega) (by omega)) (h.up k (by omega))
theorem Chn.ix {D : Pt → Prop} {st : List Pt} (h : Chn D st) : (∀ i, i + 1 < st.length → before (st.getD (st.length - 1 - i) (0, 0)) (st.getD (st.length - 1 - (i + 1)) (0, 0)) = true ∧ ∀ q, D q → 0 ≤ left (st.getD (st.length - 1 - i) (0, 0)) (st.getD (st.length - 1 - (i + 1)) (0, 0)) q) ∧
    (∀ i, i + 2 < st.length → 0 < left (st.getD (st.length - 1 - i) (0, 0)) (st.getD (st.length - 1 - (i + 1)) (0, 0)) (st.getD (st.length - 1 - (i + 2)) (0, 0))) := by
  induction h with
  | one p => exact ⟨fun i hi => by simp at hi, fun i hi => by simp at hi⟩
  | @two a b h1 h2 =>
    refine ⟨fun i hi => ?_, fun i hi => by simp only [List.length_cons, List.length_nil] at hi; omega⟩
    simp only [List.length_cons, List.length_nil] at hi
    obtain rfl : i = 0 := by omega
    exact ⟨h1, h2⟩
  | @more a b c r h1 h2 h3 h4 ih =>
    simp only [List.length_cons] at ih ⊢
    obtain ⟨i1, i2⟩ := ih
    have sh : ∀ i, i < r.length + 1 + 1 → (c :: b :: a :: r).getD (r.length + 1 + 1 + 1 - 1 - i) (0, 0) = (b :: a :: r).getD (r.length + 1 + 1 - 1 - i) (0, 0) := by
      intro i hi
      rw [show r.length + 1 + 1 + 1 - 1 - i = (r.length + 1 + 1 - 1 - i) + 1 by omega]
      simp
    have tp : (c :: b :: a :: r).getD (r.length + 1 + 1 + 1 - 1 - (r.length + 1 + 1)) (0, 0) = c := by
      rw [show r.length + 1 + 1 + 1 - 1 - (r.length + 1 + 1) = 0 by omega]; rfl
    have tb : (b :: a :: r).getD (r.length + 1 + 1 - 1 - (r.length + 1)) (0, 0) = b := by
      rw [show r.length + 1 + 1 - 1 - (r.length + 1) = 0 by omega]; rfl
    have ta : (b :: a :: r).getD (r.length + 1 + 1 - 1 - r.length) (0, 0) = a := by
      rw [show r.length + 1 + 1 - 1 - r.length = 1 by omega]; rfl
    refine ⟨fun i hi => ?_, fun i hi => ?_⟩
    · by_cases hk : i = r.length + 1
      · subst hk
        rw [sh _ (by omega), tb, tp]
        exact ⟨h1, h2⟩
      · rw [sh _ (by omega), sh _ (by omega)]
        exact i1 i (by omega)
    · by_cases hk : i = r.length
      · subst hk
        rw [sh _ (by omega), sh _ (by omega), tp, ta, tb]
        exact h3
      · rw [sh _ (by omega), sh _ (by omega), sh _ (by omega)]
        exact i2 i (by omega)
theorem Ready.ch {ps st : List Pt} (h : Ready ps st) : Ch (· ∈ ps) (fun i => st.getD (st.length - 1 - i) (0, 0)) (st.length - 1) := by
  have hne : 0 < st.length := by
    cases st with
    | nil => have := h.chn; cases this
    | cons a r => simp
  obtain ⟨i1, i2⟩ := h.chn.ix
  have gm : ∀ k, k < st.length → st.getD k (0, 0) ∈ st := fun k hk => by rw [List.getD_eq_getElem?_getD, List.getElem?_eq_getElem hk]; simp
  refine ⟨fun i hi => (i1 i (by omega)).1, fun i hi => (i1 i (by omega)).2, fun i hi => i2 i (by omega), fun i hi => h.mem _ (gm _ (by omega)), fun q hq => ?_, fun q hq => ?_⟩
  · refine h.last _ ?_ q hq
    simp only [Nat.sub_zero]
    rw [List.getLast?_eq_getElem?, List.getD_eq_getElem?_getD, List.getElem?_eq_getElem (by omega)]
    simp
  · refine h.top _ ?_ q hq
    simp only [Nat.sub_self]
    cases st with
    | nil => simp at hne
    | cons a r => rfl
def neg (p : Pt) : Pt := (-p.1, -p.2)
theorem neg_neg' (p : Pt) : neg (neg p) = p := by simp [neg]
theorem left_neg (a b c : Pt) : left (neg a) (neg b) (neg c) = left a b c := by simp only [left, turn, sub, neg]; grind
theorem before_neg (a b : Pt) : before (neg a) (neg b) = before b a := by
  have : ∀ x y : Bool, (x = true ↔ y = true) → x = y := by decide
  apply this
  rw [before_iff, before_iff]
  simp only [Lp, sub, neg]; omega
/-- The lower chain A, the upper chain B (taken from the greatest point on), and all points D. -/
structure Two (D : Pt → Prop) (A B : Nat → Pt) (x y : Nat) : Prop where
  lo : Ch D A x
  hi : Ch (fun q => D (neg q)) (fun i => neg (B i)) y
  x1 : 0 < x
  y1 : 0 < y
variable {D : Pt → Prop} {A B : Nat → Pt} {x y : Nat}

theorem Two.memB (h : Two D A B x y) {j : Nat} (hj : j ≤ y) : D (B j) := by have := h.hi.mem j hj; simpa only [neg_neg'] using this
theorem Two.edgeB (h : Two D A B x y) {j : Nat} (hj : j < y) {q : Pt} (hq : D q) : 0 ≤ left (B j) (B (j + 1)) q := by
  have := h.hi.edge j hj (neg q) (by simpa only [neg_neg'] using hq)
  simpa only [left_neg] using this
theorem Two.turnB (h : Two D A B x y) {j : Nat} (hj : j + 1 < y) : 0 < left (B j) (B (j + 1)) (B (j + 2)) := by
  have := h.hi.turns j hj
  simpa only [left_neg] using this
theorem Two.ltB (h : Two D A B x y) {i j : Nat} (hij : i < j) (hj : j ≤ y) : before (B j) (B i) = true := by
  have := h.hi.lt hij hj
  simpa only [before_neg] using this
theorem Two.join1 (h : Two D A B x y) : A x = B 0 := by
  rcases h.lo.last _ (h.memB (Nat.zero_le _)) with e | e
  · exact e.symm
  · rcases h.hi.first (neg (A x)) (by simpa only [neg_neg'] using h.lo.mem x (Nat.le_refl _)) with e' | e'
    · have := congrArg neg e'; simpa only [neg_neg'] using this
    · rw [before_neg] at e'; rw [before_asymm e] at e'; cases e'
theorem Two.join2 (h : Two D A B x y) : B y = A 0 := by
  rcases h.lo.first _ (h.memB (Nat.le_refl _)) with e | e
  · exact e
  · rcases h.hi.last (neg (A 0)) (by simpa only [neg_neg'] using h.lo.mem 0 (Nat.zero_le _)) with e' | e'
    · have := congrArg neg e'; simpa only [neg_neg'] using this.symm
    · rw [before_neg] at e'; rw [before_asymm e] at e'; cases e'
/-- At the greatest point: a left turn, or all on one line. -/
theorem junction {a p b : Pt} (ha : before a p = true) (hb : before b p = true) (hp : ∀ q, D q → q = p ∨ before q p = true) (h1 : ∀ q, D q → 0 ≤ left a p q) (h2 : ∀ q, D q → 0 ≤ left p b q) (hD : D b) :
    0 < left a p b ∨ ∀ q, D q → turn (sub p a) (sub p q) = 0 := by
  rcases Int.lt_or_eq_of_le (h1 b hD) with h | h
  · exact .inl h
  · refine .inr fun q hq => ?_
    rcases hp q hq with rfl | hqp
    · simp only [turn, sub]; grind
    · have e1 : left a p q = - turn (sub p a) (sub p q) := left_eq' a p q
      have e2 : left p b q = turn (sub p b) (sub p q) := by simp only [left, turn, sub]; grind
      have e3 : left a p b = - turn (sub p a) (sub p b) := left_eq' a p b
      have k1 := h1 q hq
      have k2 := h2 q hq
      have k := turn_trans (u := sub p a) (v := sub p b) (w := sub p q) (before_iff.1 ha) (before_iff.1 hb) (before_iff.1 hqp) (by omega) (by omega)
      omega
theorem flat_left {u p : Pt} (hu : Lp u) (h : ∀ q, D q → turn u (sub p q) = 0) {a b c : Pt} (ha : D a) (hb : D b) (hc : D c) : left a b c = 0 := by
  have e1 : turn u (sub b a) = turn u (sub p a) - turn u (sub p b) := by simp only [turn, sub]; grind
  have e2 : turn u (sub c a) = turn u (sub p a) - turn u (sub p c) := by simp only [turn, sub]; grind
  exact turn_zero hu (by rw [e1, h a ha, h b hb]; rfl) (by rw [e2, h a ha, h c hc]; rfl)
theorem Two.not_flat (h : Two D A B x y) (hn : 2 < x + y) (hf : ∀ a b c, D a → D b → D c → left a b c = 0) : False := by
  by_cases hx : 1 < x
  · have := h.lo.turns 0 (by omega)
    rw [hf _ _ _ (h.lo.mem _ (by omega)) (h.lo.mem _ (by omega)) (h.lo.mem _ (by omega))] at this
    omega
  · have hy : 1 < y := by omega
    have := h.turnB (j := 0) (by omega)
    rw [hf _ _ _ (h.memB (by omega)) (h.memB (by omega)) (h.memB (by omega))] at this
    omega
theorem Two.turn1 (h : Two D A B x y) (hn : 2 < x + y) : 0 < left (A (x - 1)) (A x) (B 1) := by
  have x1 := h.x1
  have y1 := h.y1
  have e : x - 1 + 1 = x := by omega
  have hb : before (A (x - 1)) (A x) = true := h.lo.lt (by omega) (Nat.le_refl _)
  have hb' : before (B 1) (A x) = true := by rw [h.join1]; exact h.ltB (by omega) y1
  rcases junction (D := D) hb hb' h.lo.last (fun q hq => by have := h.lo.edge (x - 1) (by omega) q hq; rwa [e] at this) (fun q hq => by have := h.edgeB (j := 0) y1 hq; rwa [← h.join1] at this) (h.memB y1) with k | k
  · exact k
  · exact (h.not_flat hn fun a b c ha hb' hc => flat_left (before_iff.1 hb) k ha hb' hc).elim
theorem Two.turn2 (h : Two D A B x y) (hn : 2 < x + y) : 0 < left (B (y - 1)) (B y) (A 1) := by
  have x1 := h.x1
  have y1 := h.y1
  have e : y - 1 + 1 = y := by omega
  have hb : before (neg (B (y - 1))) (neg (B y)) = true := by rw [before_neg]; exact h.ltB (by omega) (Nat.le_refl _)
  have hb' : before (neg (A 1)) (neg (B y)) = true := by rw [before_neg, h.join2]; exact h.lo.lt (by omega) x1
  rcases junction (D := fun q => D (neg q)) hb hb' h.hi.last (fun q hq => by have := h.hi.edge (y - 1) (by omega) q hq; rwa [e] at this) (fun q hq => by have := h.lo.edge 0 x1 (neg q) hq; rw [← left_neg, neg_neg', ← h.join2] at this; exact this) (by simpa only [neg_neg'] using h.lo.mem 1 x1) with k | k
  · rwa [left_neg] at k
  · exact (h.not_flat hn fun a b c ha hb' hc => by
      have := flat_left (D := fun q => D (neg q)) (before_iff.1 hb) k (a := neg a) (b := neg b) (c := neg c) (by simpa only [neg_neg'] using ha) (by simpa only [neg_neg'] using hb') (by simpa only [neg_neg'] using hc)
      rwa [left_neg] at this).elim
/-- No point belongs to both chains but the ends. -/
theorem Two.apart (h : Two D A B x y) {i j : Nat} (hi : i < x) (hj : j < y) : A i ≠ B j := by
  intro e
  by_cases hi0 : i = 0
  · subst hi0
    have := h.ltB hj (Nat.le_refl _)
    rw [h.join2, ← e, before_irrefl] at this
    cases this
  by_cases hj0 : j = 0
  · subst hj0
    have := h.lo.lt hi (Nat.le_refl _)
    rw [h.join1, ← e, before_irrefl] at this
    cases this
  obtain ⟨i, rfl⟩ : ∃ k, i = k + 1 := ⟨i - 1, by omega⟩
  obtain ⟨j, rfl⟩ : ∃ k, j = k + 1 := ⟨j - 1, by omega⟩
  have u1 := h.lo.up i (by omega)
  have u2 := h.lo.up (i + 1) hi
  have w1 := h.ltB (i := j) (j := j + 1) (by omega) (by omega)
  have w2 := h.ltB (i := j + 1) (j := j + 1 + 1) (by omega) (by omega)
  have t1 := h.lo.turns i (by omega)
  have t2 := h.turnB (j := j) (by omega)
  have f1 := h.lo.edge i (by omega) _ (h.memB (j := j + 1 + 1) (by omega))
  have f2 := h.lo.edge (i + 1) hi _ (h.memB (j := j) (by omega))
  rw [show i + 1 + 1 = i + 2 by omega] at *
  rw [show j + 1 + 1 = j + 2 by omega] at *
  obtain ⟨p, hp⟩ : ∃ p, p = A (i + 1) := ⟨_, rfl⟩
  rw [← e] at w1 w2 t2
  rw [← hp] at u1 u2 w1 w2 t1 t2 f1 f2
  have k1 := turn_trans (u := sub p (B (j + 2))) (v := sub p (A i)) (w := sub (A (i + 2)) p) (before_iff.1 w2) (before_iff.1 u1) (before_iff.1 u2)
    (by rw [left_eq'] at f1; rw [turn_anti]; exact f1) (by rw [← left_eq]; omega)
  have k2 := turn_trans (u := sub p (B (j + 2))) (v := sub (A (i + 2)) p) (w := sub (B j) p) (before_iff.1 w2) (before_iff.1 u2) (before_iff.1 w1) k1 (by simp only [left] at f2; exact f2)
  have e2 : left (B j) p (B (j + 2)) = - turn (sub p (B (j + 2))) (sub (B j) p) := by simp only [left, turn, sub]; grind
  omega
end Go.Hull
end
