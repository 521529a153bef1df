/- Points in range: walks.
   Conditions: none. -/
import Derived.Test.YtkbpkbjfphdgeaaRows
import Derived.WalkKit
import Derived.ProofKit
import Derived.OpenShut
import Derived.ShutString
import Derived.ChangeOld
import Derived.Below
import Derived.SizedLaws
import Derived.ChangeSlices
import Derived.Test.YtkbpkbjfphdgeaaPart8
section
set_option linter.unusedSimpArgs false
set_option linter.unusedVariables false
namespace Go.Hull
open Go Go.Am Go.Proofs

abbrev Pt := Int × Int
def pt (p : Pt) : AV := .agg [.int .i64 p.1, .int .i64 p.2]
def pts (l : List Pt) : AV := .sv false 2 (l.map pt)
def ok1 (n : Int) : Bool := decide (-100000 ≤ n) && decide (n ≤ 100000)
def okP (p : Pt) : Bool := ok1 p.1 && ok1 p.2
def chk (l : List Pt) : Int := if 64 < l.length then 5 else if l.all okP = true then 0 else 2
theorem flat_pts (l : List Pt) (n : Nat) : flatN true (n + 3) (pts l) = true := by
  simp only [pts, flatN]
  induction l with
  | nil => rfl
  | cons p l ih => simp only [List.map_cons, allB, pt, flatN]; exact ih
theorem lt_pt (p : Pt) (m : Nat) : (pt p).lt m = true := rfl
theorem ltL_pt (l : List Pt) (m : Nat) : ltL m (l.map pt) = true := by
  induction l with
  | nil => rfl
  | cons p l ih => simp only [List.map_cons, ltL, lt_pt, ih, Bool.and_self]
theorem lt_pts (l : List Pt) (m : Nat) : (pts l).lt m = true := by simp only [pts, AV.lt, ltL_pt]
theorem wrap_nat (i : Nat) (h : i < 4611686018427387904) : IntKind.i64.wrap ((i : Int) + 1) = ((i + 1 : Nat) : Int) := by
  rw [IntWalk.i64_in]
  · omega
  · omega
theorem get_pts {l : List Pt} {i : Nat} {p : Pt} (h : l[i]? = some p) : (l.map pt)[i]? = some (pt p) := by simp [h]
theorem c91 (n : Int) : CallsF Try.prog 91 [.int .i64 n] [] (.bool (ok1 n)) [] := by
  refine callsF_cw hm hf91 (by simp [cf91]) ?_
  simp only [cf91, argsAl]
  by_cases h1 : -100000 ≤ n
  · refine CW.rI fun K hK => ?_
    simp (maxSteps := 4000000) only [amC, amR, setO, Am.set, dr3, dr4, AV.elem, AV.cells, AV.one, loadAV, faddrAV, binAV, storeAV, AV.putCells, AV.ref, if_true, if_false, Nat.reduceEqDiff, Nat.reduceAdd, Nat.reduceLT, Nat.reduceLeDiff, reduceCtorEq, ↓reduceIte, pickAV, lenAV, intAV, slcA, slcAV, iaddrAV, extAV, fldAV, eqCell, contAV, appendAV, maxI, minI, Option.some.injEq, catT]
    refine hK _ _ nofun ?_
    clear hK K
    refine CW.rI fun K hK => ?_
    simp (maxSteps := 4000000) only [amC, amR, setO, Am.set, dr3, dr4, AV.elem, AV.cells, AV.one, loadAV, faddrAV, binAV, storeAV, AV.putCells, AV.ref, if_true, if_false, Nat.reduceEqDiff, Nat.reduceAdd, Nat.reduceLT, Nat.reduceLeDiff, reduceCtorEq, ↓reduceIte, pickAV, lenAV, intAV, slcA, slcAV, iaddrAV, extAV, fldAV, eqCell, contAV, appendAV, maxI, minI, Option.some.injEq, catT, h1]
    refine hK _ _ nofun ?_
    clear hK K
    exact CW.ret (finK_pure (.inr rfl) (xs := [.bool (ok1 n)]) (by simp [resRV, Am.get, ok1, h1]) rfl rfl)
  · refine CW.rI fun K hK => ?_
    simp (maxSteps := 4000000) only [amC, amR, setO, Am.set, dr3, dr4, AV.elem, AV.cells, AV.one, loadAV, faddrAV, binAV, storeAV, AV.putCells, AV.ref, if_true, if_false, Nat.reduceEqDiff, Nat.reduceAdd, Nat.reduceLT, Nat.reduceLeDiff, reduceCtorEq, ↓reduceIte, pickAV, lenAV, intAV, slcA, slcAV, iaddrAV, extAV, fldAV, eqCell, contAV, appendAV, maxI, minI, Option.some.injEq, catT]
    refine hK _ _ nofun ?_
    clear hK K
    refine CW.rI fun K hK => ?_
    simp (maxSteps := 4000000) only [amC, amR, setO, Am.set, dr3, dr4, AV.elem, AV.cells, AV.one, loadAV, faddrAV, binAV, storeAV, AV.putCells, AV.ref, if_true, if_false, Nat.reduceEqDiff, Nat.reduceAdd, Nat.reduceLT, Nat.reduceLeDiff, reduceCtorEq, ↓reduceIte, pickAV, lenAV, intAV, slcA, slcAV, iaddrAV, extAV, fldAV, eqCell, contAV, appendAV, maxI, minI, Option.some.injEq, catT, h1]
    refine hK _ _ nofun ?_
    clear hK K
    exact CW.ret (finK_pure (.inr rfl) (xs := [.bool (ok1 n)]) (by simp [resRV, Am.get, ok1, h1]) rfl rfl)
theorem c103 (n : Int) : CallsF Try.prog 103 [.int .i64 n] [] (.bool (ok1 n)) [] := by
  refine callsF_cw hm hf103 (by simp [cf103]) ?_
  simp only [cf103, argsAl]
  by_cases h1 : -100000 ≤ n
  · refine CW.rI fun K hK => ?_
    simp (maxSteps := 4000000) only [amC, amR, setO, Am.set, dr3, dr4, AV.elem, AV.cells, AV.one, loadAV, faddrAV, binAV, storeAV, AV.putCells, AV.ref, if_true, if_false, Nat.reduceEqDiff, Nat.reduceAdd, Nat.reduceLT, Nat.reduceLeDiff, reduceCtorEq, ↓reduceIte, pickAV, lenAV, intAV, slcA, slcAV, iaddrAV, extAV, fldAV, eqCell, contAV, appendAV, maxI, minI, Option.some.injEq, catT]
    refine hK _ _ nofun ?_
    clear hK K
    refine CW.rI fun K hK => ?_
    simp (maxSteps := 4000000) only [amC, amR, setO, Am.set, dr3, dr4, AV.elem, AV.cells, AV.one, loadAV, faddrAV, binAV, storeAV, AV.putCells, AV.ref, if_true, if_false, Nat.reduceEqDiff, Nat.reduceAdd, Nat.reduceLT, Nat.reduceLeDiff, reduceCtorEq, ↓reduceIte, pickAV, lenAV, intAV, slcA, slcAV, iaddrAV, extAV, fldAV, eqCell, contAV, appendAV, maxI, minI, Option.some.injEq, catT, h1]
    refine hK _ _ nofun ?_
    clear hK K
    exact CW.ret (finK_pure (.inr rfl) (xs := [.bool (ok1 n)]) (by simp [resRV, Am.get, ok1, h1]) rfl rfl)
  · refine CW.rI fun K hK => ?_
    simp (maxSteps := 4000000) only [amC, amR, setO, Am.set, dr3, dr4, AV.elem, AV.cells, AV.one, loadAV, faddrAV, binAV, storeAV, AV.putCells, AV.ref, if_true, if_false, Nat.reduceEqDiff, Nat.reduceAdd, Nat.reduceLT, Nat.reduceLeDiff, reduceCtorEq, ↓reduceIte, pickAV, lenAV, intAV, slcA, slcAV, iaddrAV, extAV, fldAV, eqCell, contAV, appendAV, maxI, minI, Option.some.injEq, catT]
    refine hK _ _ nofun ?_
    clear hK K
    refine CW.rI fun K hK => ?_
    simp (maxSteps := 4000000) only [amC, amR, setO, Am.set, dr3, dr4, AV.elem, AV.cells, AV.one, loadAV, faddrAV, binAV, storeAV, AV.putCells, AV.ref, if_true, if_false, Nat.reduceEqDiff, Nat.reduceAdd, Nat.reduceLT, Nat.reduceLeDiff, reduceCtorEq, ↓reduceIte, pickAV, lenAV, intAV, slcA, slcAV, iaddrAV, extAV, fldAV, eqCell, contAV, appendAV, maxI, minI, Option.some.injEq, catT, h1]
    refine hK _ _ nofun ?_
    clear hK K
    exact CW.ret (finK_pure (.inr rfl) (xs := [.bool (ok1 n)]) (by simp [resRV, Am.get, ok1, h1]) rfl rfl)
theorem c59 (p : Pt) : CallsF Try.prog 59 [pt p] [] (.bool (okP p)) [] := by
  refine callsF_cw hm hf59 (by simp [cf59]) ?_
  simp only [cf59, argsAl]
  unfold pt
  by_cases h1 : ok1 p.1 = true
  · refine CW.rI fun K hK => ?_
    simp (maxSteps := 4000000) only [amC, amR, setO, Am.set, dr3, dr4, AV.elem, AV.cells, AV.one, loadAV, faddrAV, binAV, storeAV, AV.putCells, AV.ref, if_true, if_false, Nat.reduceEqDiff, Nat.reduceAdd, Nat.reduceLT, Nat.reduceLeDiff, reduceCtorEq, ↓reduceIte, pickAV, lenAV, intAV, slcA, slcAV, iaddrAV, extAV, fldAV, eqCell, contAV, appendAV, maxI, minI, Option.some.injEq, catT]
    refine hK _ _ nofun ?_
    clear hK K
    refine CW.rI fun K hK => ?_
    simp (maxSteps := 4000000) only [amC, amR, setO, Am.set, dr3, dr4, AV.elem, AV.cells, AV.one, loadAV, faddrAV, binAV, storeAV, AV.putCells, AV.ref, if_true, if_false, Nat.reduceEqDiff, Nat.reduceAdd, Nat.reduceLT, Nat.reduceLeDiff, reduceCtorEq, ↓reduceIte, pickAV, lenAV, intAV, slcA, slcAV, iaddrAV, extAV, fldAV, eqCell, contAV, appendAV, maxI, minI, Option.some.injEq, catT]
    refine RunCall.view (fid := 91) (caps := []) rfl rfl rfl (c91 p.1) rfl ?_
    simp (maxSteps := 4000000) only [amC, amR, setO, Am.set, dr3, dr4, AV.elem, AV.cells, AV.one, loadAV, faddrAV, binAV, storeAV, AV.putCells, AV.ref, if_true, if_false, Nat.reduceEqDiff, Nat.reduceAdd, Nat.reduceLT, Nat.reduceLeDiff, reduceCtorEq, ↓reduceIte, pickAV, lenAV, intAV, slcA, slcAV, iaddrAV, extAV, fldAV, eqCell, contAV, appendAV, maxI, minI, Option.some.injEq, catT, h1]
    refine RunCall.view (fid := 91) (caps := []) rfl rfl rfl (c91 p.2) rfl ?_
    simp (maxSteps := 4000000) only [amC, amR, setO, Am.set, dr3, dr4, AV.elem, AV.cells, AV.one, loadAV, faddrAV, binAV, storeAV, AV.putCells, AV.ref, if_true, if_false, Nat.reduceEqDiff, Nat.reduceAdd, Nat.reduceLT, Nat.reduceLeDiff, reduceCtorEq, ↓reduceIte, pickAV, lenAV, intAV, slcA, slcAV, iaddrAV, extAV, fldAV, eqCell, contAV, appendAV, maxI, minI, Option.some.injEq, catT]
    refine hK _ _ nofun ?_
    clear hK K
    exact CW.ret (finK_pure (.inr rfl) (xs := [.bool (okP p)]) (by simp [resRV, Am.get, okP, h1]) rfl rfl)
  · refine CW.rI fun K hK => ?_
    simp (maxSteps := 4000000) only [amC, amR, setO, Am.set, dr3, dr4, AV.elem, AV.cells, AV.one, loadAV, faddrAV, binAV, storeAV, AV.putCells, AV.ref, if_true, if_false, Nat.reduceEqDiff, Nat.reduceAdd, Nat.reduceLT, Nat.reduceLeDiff, reduceCtorEq, ↓reduceIte, pickAV, lenAV, intAV, slcA, slcAV, iaddrAV, extAV, fldAV, eqCell, contAV, appendAV, maxI, minI, Option.some.injEq, catT]
    refine hK _ _ nofun ?_
    clear hK K
    refine CW.rI fun K hK => ?_
    simp (maxSteps := 4000000) only [amC, amR, setO, Am.set, dr3, dr4, AV.elem, AV.cells, AV.one, loadAV, faddrAV, binAV, storeAV, AV.putCells, AV.ref, if_true, if_false, Nat.reduceEqDiff, Nat.reduceAdd, Nat.reduceLT, Nat.reduceLeDiff, reduceCtorEq, ↓reduceIte, pickAV, lenAV, intAV, slcA, slcAV, iaddrAV, extAV, fldAV, eqCell, contAV, appendAV, maxI, minI, Option.some.injEq, catT]
    refine RunCall.view (fid := 91) (caps := []) rfl rfl rfl (c91 p.1) rfl ?_
    simp (maxSteps := 4000000) only [amC, amR, setO, Am.set, dr3, dr4, AV.elem, AV.cells, AV.one, loadAV, faddrAV, binAV, storeAV, AV.putCells, AV.ref, if_true, if_false, Nat.reduceEqDiff, Nat.reduceAdd, Nat.reduceLT, Nat.reduceLeDiff, reduceCtorEq, ↓reduceIte, pickAV, lenAV, intAV, slcA, slcAV, iaddrAV, extAV, fldAV, eqCell, contAV, appendAV, maxI, minI, Option.some.injEq, catT, h1]
    refine hK _ _ nofun ?_
    clear hK K
    exact CW.ret (finK_pure (.inr rfl) (xs := [.bool (okP p)]) (by simp [resRV, Am.get, okP, h1]) rfl rfl)
theorem c82 (p : Pt) : CallsF Try.prog 82 [pt p] [] (.bool (okP p)) [] := by
  refine callsF_cw hm hf82 (by simp [cf82]) ?_
  simp only [cf82, argsAl]
  unfold pt
  by_cases h1 : ok1 p.1 = true
  · refine CW.rI fun K hK => ?_
    simp (maxSteps := 4000000) only [amC, amR, setO, Am.set, dr3, dr4, AV.elem, AV.cells, AV.one, loadAV, faddrAV, binAV, storeAV, AV.putCells, AV.ref, if_true, if_false, Nat.reduceEqDiff, Nat.reduceAdd, Nat.reduceLT, Nat.reduceLeDiff, reduceCtorEq, ↓reduceIte, pickAV, lenAV, intAV, slcA, slcAV, iaddrAV, extAV, fldAV, eqCell, contAV, appendAV, maxI, minI, Option.some.injEq, catT]
    refine hK _ _ nofun ?_
    clear hK K
    refine CW.rI fun K hK => ?_
    simp (maxSteps := 4000000) only [amC, amR, setO, Am.set, dr3, dr4, AV.elem, AV.cells, AV.one, loadAV, faddrAV, binAV, storeAV, AV.putCells, AV.ref, if_true, if_false, Nat.reduceEqDiff, Nat.reduceAdd, Nat.reduceLT, Nat.reduceLeDiff, reduceCtorEq, ↓reduceIte, pickAV, lenAV, intAV, slcA, slcAV, iaddrAV, extAV, fldAV, eqCell, contAV, appendAV, maxI, minI, Option.some.injEq, catT]
    refine RunCall.view (fid := 103) (caps := []) rfl rfl rfl (c103 p.1) rfl ?_
    simp (maxSteps := 4000000) only [amC, amR, setO, Am.set, dr3, dr4, AV.elem, AV.cells, AV.one, loadAV, faddrAV, binAV, storeAV, AV.putCells, AV.ref, if_true, if_false, Nat.reduceEqDiff, Nat.reduceAdd, Nat.reduceLT, Nat.reduceLeDiff, reduceCtorEq, ↓reduceIte, pickAV, lenAV, intAV, slcA, slcAV, iaddrAV, extAV, fldAV, eqCell, contAV, appendAV, maxI, minI, Option.some.injEq, catT, h1]
    refine RunCall.view (fid := 103) (caps := []) rfl rfl rfl (c103 p.2) rfl ?_
    simp (maxSteps := 4000000) only [amC, amR, setO, Am.set, dr3, dr4, AV.elem, AV.cells, AV.one, loadAV, faddrAV, binAV, storeAV, AV.putCells, AV.ref, if_true, if_false, Nat.reduceEqDiff, Nat.reduceAdd, Nat.reduceLT, Nat.reduceLeDiff, reduceCtorEq, ↓reduceIte, pickAV, lenAV, intAV, slcA, slcAV, iaddrAV, extAV, fldAV, eqCell, contAV, appendAV, maxI, minI, Option.some.injEq, catT]
    refine hK _ _ nofun ?_
    clear hK K
    exact CW.ret (finK_pure (.inr rfl) (xs := [.bool (okP p)]) (by simp [resRV, Am.get, okP, h1]) rfl rfl)
  · refine CW.rI fun K hK => ?_
    simp (maxSteps := 4000000) only [amC, amR, setO, Am.set, dr3, dr4, AV.elem, AV.cells, AV.one, loadAV, faddrAV, binAV, storeAV, AV.putCells, AV.ref, if_true, if_false, Nat.reduceEqDiff, Nat.reduceAdd, Nat.reduceLT, Nat.reduceLeDiff, reduceCtorEq, ↓reduceIte, pickAV, lenAV, intAV, slcA, slcAV, iaddrAV, extAV, fldAV, eqCell, contAV, appendAV, maxI, minI, Option.some.injEq, catT]
    refine hK _ _ nofun ?_
    clear hK K
    refine CW.rI fun K hK => ?_
    simp (maxSteps := 4000000) only [amC, amR, setO, Am.set, dr3, dr4, AV.elem, AV.cells, AV.one, loadAV, faddrAV, binAV, storeAV, AV.putCells, AV.ref, if_true, if_false, Nat.reduceEqDiff, Nat.reduceAdd, Nat.reduceLT, Nat.reduceLeDiff, reduceCtorEq, ↓reduceIte, pickAV, lenAV, intAV, slcA, slcAV, iaddrAV, extAV, fldAV, eqCell, contAV, appendAV, maxI, minI, Option.some.injEq, catT]
    refine RunCall.view (fid := 103) (caps := []) rfl rfl rfl (c103 p.1) rfl ?_
    simp (maxSteps := 4000000) only [amC, amR, setO, Am.set, dr3, dr4, AV.elem, AV.cells, AV.one, loadAV, faddrAV, binAV, storeAV, AV.putCells, AV.ref, if_true, if_false, Nat.reduceEqDiff, Nat.reduceAdd, Nat.reduceLT, Nat.reduceLeDiff, reduceCtorEq, ↓reduceIte, pickAV, lenAV, intAV, slcA, slcAV, iaddrAV, extAV, fldAV, eqCell, contAV, appendAV, maxI, minI, Option.some.injEq, catT, h1]
    refine hK _ _ nofun ?_
    clear hK K
    exact CW.ret (finK_pure (.inr rfl) (xs := [.bool (okP p)]) (by simp [resRV, Am.get, okP, h1]) rfl rfl)
theorem c58 (l : List Pt) (hl : l.length < 4611686018427387904) : CallsF Try.prog 58 [pts l] [] (.int .i64 (chk l)) [] := by
  refine callsF_cw hm hf58 (by simp [cf58]) ?_
  simp only [cf58, argsAl]
  by_cases h1 : (64 : Int) < (l.length : Int)
  · have hc : chk l = 5 := by unfold chk; rw [if_pos (by omega)]
    refine CW.rI fun K hK => ?_
    simp (maxSteps := 4000000) only [amC, amR, setO, Am.set, dr3, dr4, AV.elem, AV.cells, AV.one, loadAV, faddrAV, binAV, storeAV, AV.putCells, AV.ref, if_true, if_false, Nat.reduceEqDiff, Nat.reduceAdd, Nat.reduceLT, Nat.reduceLeDiff, reduceCtorEq, ↓reduceIte, pickAV, lenAV, intAV, slcA, slcAV, iaddrAV, extAV, fldAV, eqCell, contAV, appendAV, maxI, minI, Option.some.injEq, catT]
    refine hK _ _ nofun ?_
    clear hK K
    refine CW.seq ?_
    unfold pts
    refine CW.rI fun K hK => ?_
    simp (maxSteps := 4000000) only [amC, amR, setO, Am.set, dr3, dr4, AV.elem, AV.cells, AV.one, loadAV, faddrAV, binAV, storeAV, AV.putCells, AV.ref, if_true, if_false, Nat.reduceEqDiff, Nat.reduceAdd, Nat.reduceLT, Nat.reduceLeDiff, reduceCtorEq, ↓reduceIte, pickAV, lenAV, intAV, slcA, slcAV, iaddrAV, extAV, fldAV, eqCell, contAV, appendAV, maxI, minI, Option.some.injEq, catT, List.length_map, h1]
    refine hK _ _ nofun ?_
    clear hK K
    refine CW.condT rfl ?_
    refine CW.rI fun K hK => ?_
    simp (maxSteps := 4000000) only [amC, amR, setO, Am.set, dr3, dr4, AV.elem, AV.cells, AV.one, loadAV, faddrAV, binAV, storeAV, AV.putCells, AV.ref, if_true, if_false, Nat.reduceEqDiff, Nat.reduceAdd, Nat.reduceLT, Nat.reduceLeDiff, reduceCtorEq, ↓reduceIte, pickAV, lenAV, intAV, slcA, slcAV, iaddrAV, extAV, fldAV, eqCell, contAV, appendAV, maxI, minI, Option.some.injEq, catT]
    refine hK _ _ nofun ?_
    clear hK K
    exact CW.ret (finK_pure (.inr rfl) (xs := [.int .i64 (chk l)]) (by simp [resRV, Am.get, hc]) rfl rfl)
  · have hlen : ¬ 64 < l.length := by omega
    refine CW.rI fun K hK => ?_
    simp (maxSteps := 4000000) only [amC, amR, setO, Am.set, dr3, dr4, AV.elem, AV.cells, AV.one, loadAV, faddrAV, binAV, storeAV, AV.putCells, AV.ref, if_true, if_false, Nat.reduceEqDiff, Nat.reduceAdd, Nat.reduceLT, Nat.reduceLeDiff, reduceCtorEq, ↓reduceIte, pickAV, lenAV, intAV, slcA, slcAV, iaddrAV, extAV, fldAV, eqCell, contAV, appendAV, maxI, minI, Option.some.injEq, catT]
    refine hK _ _ nofun ?_
    clear hK K
    refine CW.seq ?_
    unfold pts
    refine CW.rI fun K hK => ?_
    simp (maxSteps := 4000000) only [amC, amR, setO, Am.set, dr3, dr4, AV.elem, AV.cells, AV.one, loadAV, faddrAV, binAV, storeAV, AV.putCells, AV.ref, if_true, if_false, Nat.reduceEqDiff, Nat.reduceAdd, Nat.reduceLT, Nat.reduceLeDiff, reduceCtorEq, ↓reduceIte, pickAV, lenAV, intAV, slcA, slcAV, iaddrAV, extAV, fldAV, eqCell, contAV, appendAV, maxI, minI, Option.some.injEq, catT, List.length_map, h1]
    refine hK _ _ nofun ?_
    clear hK K
    refine CW.condF rfl (CW.skip ?_)
    show CW _ _ _ _ _ _
    refine CW.seq ?_
    refine CW.rI fun K hK => ?_
    simp (maxSteps := 4000000) only [amC, amR, setO, Am.set, dr3, dr4, AV.elem, AV.cells, AV.one, loadAV, faddrAV, binAV, storeAV, AV.putCells, AV.ref, if_true, if_false, Nat.reduceEqDiff, Nat.reduceAdd, Nat.reduceLT, Nat.reduceLeDiff, reduceCtorEq, ↓reduceIte, pickAV, lenAV, intAV, slcA, slcAV, iaddrAV, extAV, fldAV, eqCell, contAV, appendAV, maxI, minI, Option.some.injEq, catT]
    refine hK _ _ nofun ?_
    clear hK K
    refine CW.block ?_
    refine CW.loopF (fun i => l.length - i) (fun i => ⟨[(0, .sv false 2 (l.map pt)), (3, .int .i64 (i : Nat))], []⟩) (fun i => i ≤ l.length ∧ (l.take i).all okP = true) (fun i hi => ?_) 0 ⟨Nat.zero_le _, by simp⟩ _ (Fgt.mk' 0 (by simp) (by simp [keepB, Am.get, AV.lt, ltL_pt]) rfl trivial)
    obtain ⟨hi1, hi2⟩ := hi
    refine CW.seq ?_
    by_cases h2 : (i : Int) < (l.length : Int)
    · obtain ⟨p, hp⟩ : ∃ p, l[i]? = some p := ⟨l[i], List.getElem?_eq_getElem (by omega)⟩
      have hpt := get_pts hp
      refine CW.rI fun K hK => ?_
      simp (maxSteps := 4000000) only [amC, amR, setO, Am.set, dr3, dr4, AV.elem, AV.cells, AV.one, loadAV, faddrAV, binAV, storeAV, AV.putCells, AV.ref, if_true, if_false, Nat.reduceEqDiff, Nat.reduceAdd, Nat.reduceLT, Nat.reduceLeDiff, reduceCtorEq, ↓reduceIte, pickAV, lenAV, intAV, slcA, slcAV, iaddrAV, extAV, fldAV, eqCell, contAV, appendAV, maxI, minI, Option.some.injEq, catT, List.length_map, h2]
      refine hK _ _ nofun ?_
      clear hK K
      refine CW.condT rfl (CW.skip ?_)
      show CW _ _ _ _ _ _
      refine CW.seq ?_
      refine CW.block ?_
      by_cases h3 : okP p = true
      · refine CW.rI fun K hK => ?_
        simp (maxSteps := 4000000) only [amC, amR, setO, Am.set, dr3, dr4, AV.elem, AV.cells, AV.one, loadAV, faddrAV, binAV, storeAV, AV.putCells, AV.ref, if_true, if_false, Nat.reduceEqDiff, Nat.reduceAdd, Nat.reduceLT, Nat.reduceLeDiff, reduceCtorEq, ↓reduceIte, pickAV, lenAV, intAV, slcA, slcAV, iaddrAV, extAV, fldAV, eqCell, contAV, appendAV, maxI, minI, Option.some.injEq, catT, List.length_map, h2, hpt, Int.toNat_natCast, Int.natCast_nonneg, AV.cells, pt]
        refine RunCall.view (fid := 59) (caps := []) rfl rfl rfl (c59 p) rfl ?_
        simp (maxSteps := 4000000) only [amC, amR, setO, Am.set, dr3, dr4, AV.elem, AV.cells, AV.one, loadAV, faddrAV, binAV, storeAV, AV.putCells, AV.ref, if_true, if_false, Nat.reduceEqDiff, Nat.reduceAdd, Nat.reduceLT, Nat.reduceLeDiff, reduceCtorEq, ↓reduceIte, pickAV, lenAV, intAV, slcA, slcAV, iaddrAV, extAV, fldAV, eqCell, contAV, appendAV, maxI, minI, Option.some.injEq, catT, h3]
        refine hK _ _ nofun ?_
        clear hK K
        refine CW.condF rfl (CW.skip ?_)
        show CW _ _ _ _ _ _
        refine CW.rE fun K hK => ?_
        simp (maxSteps := 4000000) only [amC, amR, setO, Am.set, dr3, dr4, AV.elem, AV.cells, AV.one, loadAV, faddrAV, binAV, storeAV, AV.putCells, AV.ref, if_true, if_false, Nat.reduceEqDiff, Nat.reduceAdd, Nat.reduceLT, Nat.reduceLeDiff, reduceCtorEq, ↓reduceIte, pickAV, lenAV, intAV, slcA, slcAV, iaddrAV, extAV, fldAV, eqCell, contAV, appendAV, maxI, minI, Option.some.injEq, catT, wrap_nat i (by omega)]
        refine hK _ _ nofun ?_
        clear hK K
        refine ⟨i + 1, by omega, ⟨by omega, ?_⟩, Fgt.mk' 0 (by simp) (by simp [keepB, Am.get, AV.lt, ltL_pt]) rfl trivial⟩
        rw [List.take_add_one, hp]
        simp [hi2, h3]
      · refine CW.rI fun K hK => ?_
        simp (maxSteps := 4000000) only [amC, amR, setO, Am.set, dr3, dr4, AV.elem, AV.cells, AV.one, loadAV, faddrAV, binAV, storeAV, AV.putCells, AV.ref, if_true, if_false, Nat.reduceEqDiff, Nat.reduceAdd, Nat.reduceLT, Nat.reduceLeDiff, reduceCtorEq, ↓reduceIte, pickAV, lenAV, intAV, slcA, slcAV, iaddrAV, extAV, fldAV, eqCell, contAV, appendAV, maxI, minI, Option.some.injEq, catT, List.length_map, h2, hpt, Int.toNat_natCast, Int.natCast_nonneg, AV.cells, pt]
        refine RunCall.view (fid := 59) (caps := []) rfl rfl rfl (c59 p) rfl ?_
        simp (maxSteps := 4000000) only [amC, amR, setO, Am.set, dr3, dr4, AV.elem, AV.cells, AV.one, loadAV, faddrAV, binAV, storeAV, AV.putCells, AV.ref, if_true, if_false, Nat.reduceEqDiff, Nat.reduceAdd, Nat.reduceLT, Nat.reduceLeDiff, reduceCtorEq, ↓reduceIte, pickAV, lenAV, intAV, slcA, slcAV, iaddrAV, extAV, fldAV, eqCell, contAV, appendAV, maxI, minI, Option.some.injEq, catT, h3]
        refine hK _ _ nofun ?_
        clear hK K
        refine CW.condT rfl ?_
        refine CW.rI fun K hK => ?_
        simp (maxSteps := 4000000) only [amC, amR, setO, Am.set, dr3, dr4, AV.elem, AV.cells, AV.one, loadAV, faddrAV, binAV, storeAV, AV.putCells, AV.ref, if_true, if_false, Nat.reduceEqDiff, Nat.reduceAdd, Nat.reduceLT, Nat.reduceLeDiff, reduceCtorEq, ↓reduceIte, pickAV, lenAV, intAV, slcA, slcAV, iaddrAV, extAV, fldAV, eqCell, contAV, appendAV, maxI, minI, Option.some.injEq, catT]
        refine hK _ _ nofun ?_
        clear hK K
        have hc : chk l = 2 := by
          unfold chk
          rw [if_neg hlen, if_neg]
          intro hall
          exact h3 (List.all_eq_true.1 hall p (List.mem_of_getElem? hp))
        exact CW.ret (finK_pure (.inr rfl) (xs := [.int .i64 (chk l)]) (by simp [resRV, Am.get, hc]) rfl rfl)
    · refine CW.rI fun K hK => ?_
      simp (maxSteps := 4000000) only [amC, amR, setO, Am.set, dr3, dr4, AV.elem, AV.cells, AV.one, loadAV, faddrAV, binAV, storeAV, AV.putCells, AV.ref, if_true, if_false, Nat.reduceEqDiff, Nat.reduceAdd, Nat.reduceLT, Nat.reduceLeDiff, reduceCtorEq, ↓reduceIte, pickAV, lenAV, intAV, slcA, slcAV, iaddrAV, extAV, fldAV, eqCell, contAV, appendAV, maxI, minI, Option.some.injEq, catT, List.length_map, h2]
      refine hK _ _ nofun ?_
      clear hK K
      refine CW.condF rfl (CW.exit ?_)
      show CW _ _ _ _ _ _
      refine CW.rI fun K hK => ?_
      simp (maxSteps := 4000000) only [amC, amR, setO, Am.set, dr3, dr4, AV.elem, AV.cells, AV.one, loadAV, faddrAV, binAV, storeAV, AV.putCells, AV.ref, if_true, if_false, Nat.reduceEqDiff, Nat.reduceAdd, Nat.reduceLT, Nat.reduceLeDiff, reduceCtorEq, ↓reduceIte, pickAV, lenAV, intAV, slcA, slcAV, iaddrAV, extAV, fldAV, eqCell, contAV, appendAV, maxI, minI, Option.some.injEq, catT]
      refine hK _ _ nofun ?_
      clear hK K
      have hil : i = l.length := by omega
      subst hil
      have hc : chk l = 0 := by
        unfold chk
        rw [if_neg hlen, if_pos]
        simpa using hi2
      exact CW.ret (finK_pure (.inr rfl) (xs := [.int .i64 (chk l)]) (by simp [resRV, Am.get, hc]) rfl rfl)
end Go.Hull
end
section
set_option linter.unusedSimpArgs false
set_option linter.unusedVariables false
namespace Go.Hull
open Go Go.Am Go.Proofs

theorem c102 (l : List Pt) (hl : l.length < 4611686018427387904) : CallsF Try.prog 102 [.clo 82 [], pts l] [] (.int .i64 (if l.all okP = true then 0 else 2)) [] := by
  refine callsF_cw hm hf102 (by simp [cf102]) ?_
  simp only [cf102, argsAl]
  unfold pts
  refine CW.rI fun K hK => ?_
  simp (maxSteps := 4000000) only [amC, amR, setO, Am.set, dr3, dr4, AV.elem, AV.cells, AV.one, loadAV, faddrAV, binAV, storeAV, AV.putCells, AV.ref, if_true, if_false, Nat.reduceEqDiff, Nat.reduceAdd, Nat.reduceLT, Nat.reduceLeDiff, reduceCtorEq, ↓reduceIte, pickAV, lenAV, intAV, slcA, slcAV, iaddrAV, extAV, fldAV, eqCell, contAV, appendAV, maxI, minI, Option.some.injEq, catT]
  refine hK _ _ nofun ?_
  clear hK K
  refine CW.seq ?_
  refine CW.rI fun K hK => ?_
  simp (maxSteps := 4000000) only [amC, amR, setO, Am.set, dr3, dr4, AV.elem, AV.cells, AV.one, loadAV, faddrAV, binAV, storeAV, AV.putCells, AV.ref, if_true, if_false, Nat.reduceEqDiff, Nat.reduceAdd, Nat.reduceLT, Nat.reduceLeDiff, reduceCtorEq, ↓reduceIte, pickAV, lenAV, intAV, slcA, slcAV, iaddrAV, extAV, fldAV, eqCell, contAV, appendAV, maxI, minI, Option.some.injEq, catT, List.length_map]
  refine hK _ _ nofun ?_
  clear hK K
  refine CW.block ?_
  refine CW.loopF (fun i => l.length - i) (fun i => ⟨[(0, .clo 82 []), (7, .sv false 2 (l.map pt)), (8, .int .i64 l.length), (9, .int .i64 (i : Nat))], []⟩) (fun i => i ≤ l.length ∧ (l.take i).all okP = true) (fun i hi => ?_) 0 ⟨Nat.zero_le _, by simp⟩ _ (Fgt.mk' 0 (by simp) (by simp [keepB, Am.get, AV.lt, ltL_pt, ltL]) rfl trivial)
  obtain ⟨hi1, hi2⟩ := hi
  by_cases h2 : (i : Int) < (l.length : Int)
  · obtain ⟨p, hp⟩ : ∃ p, l[i]? = some p := ⟨l[i], List.getElem?_eq_getElem (by omega)⟩
    have hpt := get_pts hp
    refine CW.rI fun K hK => ?_
    simp (maxSteps := 4000000) only [amC, amR, setO, Am.set, dr3, dr4, AV.elem, AV.cells, AV.one, loadAV, faddrAV, binAV, storeAV, AV.putCells, AV.ref, if_true, if_false, Nat.reduceEqDiff, Nat.reduceAdd, Nat.reduceLT, Nat.reduceLeDiff, reduceCtorEq, ↓reduceIte, pickAV, lenAV, intAV, slcA, slcAV, iaddrAV, extAV, fldAV, eqCell, contAV, appendAV, maxI, minI, Option.some.injEq, catT, h2]
    refine hK _ _ nofun ?_
    clear hK K
    refine CW.seq ?_
    refine CW.condT rfl (CW.skip ?_)
    show CW _ _ _ _ _ _
    refine CW.seq ?_
    refine CW.block ?_
    by_cases h3 : okP p = true
    · refine CW.rI fun K hK => ?_
      simp (maxSteps := 4000000) only [amC, amR, setO, Am.set, dr3, dr4, AV.elem, AV.cells, AV.one, loadAV, faddrAV, binAV, storeAV, AV.putCells, AV.ref, if_true, if_false, Nat.reduceEqDiff, Nat.reduceAdd, Nat.reduceLT, Nat.reduceLeDiff, reduceCtorEq, ↓reduceIte, pickAV, lenAV, intAV, slcA, slcAV, iaddrAV, extAV, fldAV, eqCell, contAV, appendAV, maxI, minI, Option.some.injEq, catT, List.length_map, h2, hpt, Int.toNat_natCast, Int.natCast_nonneg, AV.cells, pt, AV.elem, AV.one, List.all_cons, List.all_nil]
      refine hK _ _ nofun ?_
      clear hK K
      refine CW.rI fun K hK => ?_
      simp (maxSteps := 4000000) only [amC, amR, setO, Am.set, dr3, dr4, AV.elem, AV.cells, AV.one, loadAV, faddrAV, binAV, storeAV, AV.putCells, AV.ref, if_true, if_false, Nat.reduceEqDiff, Nat.reduceAdd, Nat.reduceLT, Nat.reduceLeDiff, reduceCtorEq, ↓reduceIte, pickAV, lenAV, intAV, slcA, slcAV, iaddrAV, extAV, fldAV, eqCell, contAV, appendAV, maxI, minI, Option.some.injEq, catT, AV.cells, pt, AV.putCells]
      refine RunCall.view (fid := 82) (caps := []) rfl rfl rfl (c82 p) rfl ?_
      simp (maxSteps := 4000000) only [amC, amR, setO, Am.set, dr3, dr4, AV.elem, AV.cells, AV.one, loadAV, faddrAV, binAV, storeAV, AV.putCells, AV.ref, if_true, if_false, Nat.reduceEqDiff, Nat.reduceAdd, Nat.reduceLT, Nat.reduceLeDiff, reduceCtorEq, ↓reduceIte, pickAV, lenAV, intAV, slcA, slcAV, iaddrAV, extAV, fldAV, eqCell, contAV, appendAV, maxI, minI, Option.some.injEq, catT, h3]
      refine hK _ _ nofun ?_
      clear hK K
      refine CW.condF rfl (CW.skip ?_)
      show CW _ _ _ _ _ _
      refine CW.rE fun K hK => ?_
      simp (maxSteps := 4000000) only [amC, amR, setO, Am.set, dr3, dr4, AV.elem, AV.cells, AV.one, loadAV, faddrAV, binAV, storeAV, AV.putCells, AV.ref, if_true, if_false, Nat.reduceEqDiff, Nat.reduceAdd, Nat.reduceLT, Nat.reduceLeDiff, reduceCtorEq, ↓reduceIte, pickAV, lenAV, intAV, slcA, slcAV, iaddrAV, extAV, fldAV, eqCell, contAV, appendAV, maxI, minI, Option.some.injEq, catT, wrap_nat i (by omega)]
      refine hK _ _ nofun ?_
      clear hK K
      refine ⟨i + 1, by omega, ⟨by omega, ?_⟩, Fgt.mk' 0 (by simp) (by simp [keepB, Am.get, AV.lt, ltL_pt, ltL]) rfl trivial⟩
      rw [List.take_add_one, hp]
      simp [hi2, h3]
    · refine CW.rI fun K hK => ?_
      simp (maxSteps := 4000000) only [amC, amR, setO, Am.set, dr3, dr4, AV.elem, AV.cells, AV.one, loadAV, faddrAV, binAV, storeAV, AV.putCells, AV.ref, if_true, if_false, Nat.reduceEqDiff, Nat.reduceAdd, Nat.reduceLT, Nat.reduceLeDiff, reduceCtorEq, ↓reduceIte, pickAV, lenAV, intAV, slcA, slcAV, iaddrAV, extAV, fldAV, eqCell, contAV, appendAV, maxI, minI, Option.some.injEq, catT, List.length_map, h2, hpt, Int.toNat_natCast, Int.natCast_nonneg, AV.cells, pt, AV.elem, AV.one, List.all_cons, List.all_nil]
      refine hK _ _ nofun ?_
      clear hK K
      refine CW.rI fun K hK => ?_
      simp (maxSteps := 4000000) only [amC, amR, setO, Am.set, dr3, dr4, AV.elem, AV.cells, AV.one, loadAV, faddrAV, binAV, storeAV, AV.putCells, AV.ref, if_true, if_false, Nat.reduceEqDiff, Nat.reduceAdd, Nat.reduceLT, Nat.reduceLeDiff, reduceCtorEq, ↓reduceIte, pickAV, lenAV, intAV, slcA, slcAV, iaddrAV, extAV, fldAV, eqCell, contAV, appendAV, maxI, minI, Option.some.injEq, catT, AV.cells, pt, AV.putCells]
      refine RunCall.view (fid := 82) (caps := []) rfl rfl rfl (c82 p) rfl ?_
      simp (maxSteps := 4000000) only [amC, amR, setO, Am.set, dr3, dr4, AV.elem, AV.cells, AV.one, loadAV, faddrAV, binAV, storeAV, AV.putCells, AV.ref, if_true, if_false, Nat.reduceEqDiff, Nat.reduceAdd, Nat.reduceLT, Nat.reduceLeDiff, reduceCtorEq, ↓reduceIte, pickAV, lenAV, intAV, slcA, slcAV, iaddrAV, extAV, fldAV, eqCell, contAV, appendAV, maxI, minI, Option.some.injEq, catT, h3]
      refine hK _ _ nofun ?_
      clear hK K
      refine CW.condT rfl ?_
      refine CW.rI fun K hK => ?_
      simp (maxSteps := 4000000) only [amC, amR, setO, Am.set, dr3, dr4, AV.elem, AV.cells, AV.one, loadAV, faddrAV, binAV, storeAV, AV.putCells, AV.ref, if_true, if_false, Nat.reduceEqDiff, Nat.reduceAdd, Nat.reduceLT, Nat.reduceLeDiff, reduceCtorEq, ↓reduceIte, pickAV, lenAV, intAV, slcA, slcAV, iaddrAV, extAV, fldAV, eqCell, contAV, appendAV, maxI, minI, Option.some.injEq, catT]
      refine hK _ _ nofun ?_
      clear hK K
      have hc : (if l.all okP = true then (0 : Int) else 2) = 2 := by
        rw [if_neg]
        intro hall
        exact h3 (List.all_eq_true.1 hall p (List.mem_of_getElem? hp))
      rw [hc]
      exact CW.ret (finK_pure (.inr rfl) (xs := [.int .i64 2]) (by simp [resRV, Am.get, hc]) rfl rfl)
  · refine CW.rI fun K hK => ?_
    simp (maxSteps := 4000000) only [amC, amR, setO, Am.set, dr3, dr4, AV.elem, AV.cells, AV.one, loadAV, faddrAV, binAV, storeAV, AV.putCells, AV.ref, if_true, if_false, Nat.reduceEqDiff, Nat.reduceAdd, Nat.reduceLT, Nat.reduceLeDiff, reduceCtorEq, ↓reduceIte, pickAV, lenAV, intAV, slcA, slcAV, iaddrAV, extAV, fldAV, eqCell, contAV, appendAV, maxI, minI, Option.some.injEq, catT, h2]
    refine hK _ _ nofun ?_
    clear hK K
    refine CW.seq ?_
    refine CW.condF rfl (CW.exit ?_)
    show CW _ _ _ _ _ _
    refine CW.rI fun K hK => ?_
    simp (maxSteps := 4000000) only [amC, amR, setO, Am.set, dr3, dr4, AV.elem, AV.cells, AV.one, loadAV, faddrAV, binAV, storeAV, AV.putCells, AV.ref, if_true, if_false, Nat.reduceEqDiff, Nat.reduceAdd, Nat.reduceLT, Nat.reduceLeDiff, reduceCtorEq, ↓reduceIte, pickAV, lenAV, intAV, slcA, slcAV, iaddrAV, extAV, fldAV, eqCell, contAV, appendAV, maxI, minI, Option.some.injEq, catT]
    refine hK _ _ nofun ?_
    clear hK K
    have hil : i = l.length := by omega
    subst hil
    have hc : (if l.all okP = true then (0 : Int) else 2) = 0 := by
      rw [if_pos]
      simpa using hi2
    rw [hc]
    exact CW.ret (finK_pure (.inr rfl) (xs := [.int .i64 0]) (by simp [resRV, Am.get, hc]) rfl rfl)
theorem c81 (l : List Pt) (hl : l.length < 4611686018427387904) : CallsF Try.prog 81 [pts l, .clo 82 []] [] (.int .i64 (chk l)) [] := by
  refine callsF_cw hm hf81 (by simp [cf81]) ?_
  simp only [cf81, argsAl]
  refine CW.rI fun K hK => ?_
  simp (maxSteps := 4000000) only [amC, amR, setO, Am.set, dr3, dr4, AV.elem, AV.cells, AV.one, loadAV, faddrAV, binAV, storeAV, AV.putCells, AV.ref, if_true, if_false, Nat.reduceEqDiff, Nat.reduceAdd, Nat.reduceLT, Nat.reduceLeDiff, reduceCtorEq, ↓reduceIte, pickAV, lenAV, intAV, slcA, slcAV, iaddrAV, extAV, fldAV, eqCell, contAV, appendAV, maxI, minI, Option.some.injEq, catT]
  refine hK _ _ nofun ?_
  clear hK K
  refine CW.seq ?_
  by_cases h1 : (64 : Int) < (l.length : Int)
  · have hc : chk l = 5 := by unfold chk; rw [if_pos (by omega)]
    unfold pts
    refine CW.rI fun K hK => ?_
    simp (maxSteps := 4000000) only [amC, amR, setO, Am.set, dr3, dr4, AV.elem, AV.cells, AV.one, loadAV, faddrAV, binAV, storeAV, AV.putCells, AV.ref, if_true, if_false, Nat.reduceEqDiff, Nat.reduceAdd, Nat.reduceLT, Nat.reduceLeDiff, reduceCtorEq, ↓reduceIte, pickAV, lenAV, intAV, slcA, slcAV, iaddrAV, extAV, fldAV, eqCell, contAV, appendAV, maxI, minI, Option.some.injEq, catT, List.length_map, h1]
    refine hK _ _ nofun ?_
    clear hK K
    refine CW.condT rfl ?_
    refine CW.rI fun K hK => ?_
    simp (maxSteps := 4000000) only [amC, amR, setO, Am.set, dr3, dr4, AV.elem, AV.cells, AV.one, loadAV, faddrAV, binAV, storeAV, AV.putCells, AV.ref, if_true, if_false, Nat.reduceEqDiff, Nat.reduceAdd, Nat.reduceLT, Nat.reduceLeDiff, reduceCtorEq, ↓reduceIte, pickAV, lenAV, intAV, slcA, slcAV, iaddrAV, extAV, fldAV, eqCell, contAV, appendAV, maxI, minI, Option.some.injEq, catT]
    refine hK _ _ nofun ?_
    clear hK K
    exact CW.ret (finK_pure (.inr rfl) (xs := [.int .i64 (chk l)]) (by simp [resRV, Am.get, hc]) rfl rfl)
  · have hc : chk l = if l.all okP = true then 0 else 2 := by unfold chk; rw [if_neg (by omega)]
    unfold pts
    refine CW.rI fun K hK => ?_
    simp (maxSteps := 4000000) only [amC, amR, setO, Am.set, dr3, dr4, AV.elem, AV.cells, AV.one, loadAV, faddrAV, binAV, storeAV, AV.putCells, AV.ref, if_true, if_false, Nat.reduceEqDiff, Nat.reduceAdd, Nat.reduceLT, Nat.reduceLeDiff, reduceCtorEq, ↓reduceIte, pickAV, lenAV, intAV, slcA, slcAV, iaddrAV, extAV, fldAV, eqCell, contAV, appendAV, maxI, minI, Option.some.injEq, catT, List.length_map, h1]
    refine hK _ _ nofun ?_
    clear hK K
    refine CW.condF rfl (CW.skip ?_)
    show CW _ _ _ _ _ _
    refine CW.rI fun K hK => ?_
    simp (maxSteps := 4000000) only [amC, amR, setO, Am.set, dr3, dr4, AV.elem, AV.cells, AV.one, loadAV, faddrAV, binAV, storeAV, AV.putCells, AV.ref, if_true, if_false, Nat.reduceEqDiff, Nat.reduceAdd, Nat.reduceLT, Nat.reduceLeDiff, reduceCtorEq, ↓reduceIte, pickAV, lenAV, intAV, slcA, slcAV, iaddrAV, extAV, fldAV, eqCell, contAV, appendAV, maxI, minI, Option.some.injEq, catT]
    refine RunCall.view (fid := 102) (caps := []) rfl rfl (viewArgs_flat2 rfl (flat_pts l 2)) (c102 l hl) rfl ?_
    simp (maxSteps := 4000000) only [amC, amR, setO, Am.set, dr3, dr4, AV.elem, AV.cells, AV.one, loadAV, faddrAV, binAV, storeAV, AV.putCells, AV.ref, if_true, if_false, Nat.reduceEqDiff, Nat.reduceAdd, Nat.reduceLT, Nat.reduceLeDiff, reduceCtorEq, ↓reduceIte, pickAV, lenAV, intAV, slcA, slcAV, iaddrAV, extAV, fldAV, eqCell, contAV, appendAV, maxI, minI, Option.some.injEq, catT]
    refine hK _ _ nofun ?_
    clear hK K
    exact CW.ret (finK_pure (.inr rfl) (xs := [.int .i64 (chk l)]) (by simp [resRV, Am.get, hc]) rfl rfl)
theorem c50 (l : List Pt) (hl : l.length < 4611686018427387904) : CallsF Try.prog 50 [pts l] [] (.int .i64 (chk l)) [] := by
  refine callsF_cw hm hf50 (by simp [cf50]) ?_
  simp only [cf50, argsAl]
  refine CW.rI fun K hK => ?_
  simp (maxSteps := 4000000) only [amC, amR, setO, Am.set, dr3, dr4, AV.elem, AV.cells, AV.one, loadAV, faddrAV, binAV, storeAV, AV.putCells, AV.ref, if_true, if_false, Nat.reduceEqDiff, Nat.reduceAdd, Nat.reduceLT, Nat.reduceLeDiff, reduceCtorEq, ↓reduceIte, pickAV, lenAV, intAV, slcA, slcAV, iaddrAV, extAV, fldAV, eqCell, contAV, appendAV, maxI, minI, Option.some.injEq, catT]
  refine hK _ _ nofun ?_
  clear hK K
  refine CW.rI fun K hK => ?_
  simp (maxSteps := 4000000) only [amC, amR, setO, Am.set, dr3, dr4, AV.elem, AV.cells, AV.one, loadAV, faddrAV, binAV, storeAV, AV.putCells, AV.ref, if_true, if_false, Nat.reduceEqDiff, Nat.reduceAdd, Nat.reduceLT, Nat.reduceLeDiff, reduceCtorEq, ↓reduceIte, pickAV, lenAV, intAV, slcA, slcAV, iaddrAV, extAV, fldAV, eqCell, contAV, appendAV, maxI, minI, Option.some.injEq, catT]
  refine RunCall.view (fid := 81) (caps := []) rfl rfl (viewArgs_flat2 (flat_pts l 2) rfl) (c81 l hl) rfl ?_
  simp (maxSteps := 4000000) only [amC, amR, setO, Am.set, dr3, dr4, AV.elem, AV.cells, AV.one, loadAV, faddrAV, binAV, storeAV, AV.putCells, AV.ref, if_true, if_false, Nat.reduceEqDiff, Nat.reduceAdd, Nat.reduceLT, Nat.reduceLeDiff, reduceCtorEq, ↓reduceIte, pickAV, lenAV, intAV, slcA, slcAV, iaddrAV, extAV, fldAV, eqCell, contAV, appendAV, maxI, minI, Option.some.injEq, catT]
  refine hK _ _ nofun ?_
  clear hK K
  exact CW.ret (finK_pure (.inr rfl) (xs := [.int .i64 (chk l)]) (by simp [resRV, Am.get]) rfl rfl)
theorem c25 (l : List Pt) : CallsF Try.prog 25 [pts l] [] (.bool (decide (0 < l.length) && (decide (l.length ≤ 8) && (chk l == 0)))) [] := by
  refine callsF_cw hm hf25 (by simp [cf25]) ?_
  simp only [cf25, argsAl]
  refine CW.rI fun K hK => ?_
  simp (maxSteps := 4000000) only [amC, amR, setO, Am.set, dr3, dr4, AV.elem, AV.cells, AV.one, loadAV, faddrAV, binAV, storeAV, AV.putCells, AV.ref, if_true, if_false, Nat.reduceEqDiff, Nat.reduceAdd, Nat.reduceLT, Nat.reduceLeDiff, reduceCtorEq, ↓reduceIte, pickAV, lenAV, intAV, slcA, slcAV, iaddrAV, extAV, fldAV, eqCell, contAV, appendAV, maxI, minI, Option.some.injEq, catT]
  refine hK _ _ nofun ?_
  clear hK K
  by_cases h1 : (0 : Int) < (l.length : Int)
  · have h1' : 0 < l.length := by omega
    by_cases h2 : (l.length : Int) ≤ 8
    · have h2' : l.length ≤ 8 := by omega
      refine CW.rI fun K hK => ?_
      unfold pts
      simp (maxSteps := 4000000) only [amC, amR, setO, Am.set, dr3, dr4, AV.elem, AV.cells, AV.one, loadAV, faddrAV, binAV, storeAV, AV.putCells, AV.ref, if_true, if_false, Nat.reduceEqDiff, Nat.reduceAdd, Nat.reduceLT, Nat.reduceLeDiff, reduceCtorEq, ↓reduceIte, pickAV, lenAV, intAV, slcA, slcAV, iaddrAV, extAV, fldAV, eqCell, contAV, appendAV, maxI, minI, Option.some.injEq, catT, List.length_map, h1, h2]
      refine RunCall.view (fid := 58) (caps := []) rfl rfl (viewArgs_flat1 (flat_pts l 2)) (c58 l (by omega)) rfl ?_
      simp (maxSteps := 4000000) only [amC, amR, setO, Am.set, dr3, dr4, AV.elem, AV.cells, AV.one, loadAV, faddrAV, binAV, storeAV, AV.putCells, AV.ref, if_true, if_false, Nat.reduceEqDiff, Nat.reduceAdd, Nat.reduceLT, Nat.reduceLeDiff, reduceCtorEq, ↓reduceIte, pickAV, lenAV, intAV, slcA, slcAV, iaddrAV, extAV, fldAV, eqCell, contAV, appendAV, maxI, minI, Option.some.injEq, catT]
      refine hK _ _ nofun ?_
      clear hK K
      exact CW.ret (finK_pure (.inr rfl) (xs := [.bool (decide (0 < l.length) && (decide (l.length ≤ 8) && (chk l == 0)))]) (by simp [resRV, Am.get, h1', h2']) rfl rfl)
    · have h2' : ¬ l.length ≤ 8 := by omega
      refine CW.rI fun K hK => ?_
      unfold pts
      simp (maxSteps := 4000000) only [amC, amR, setO, Am.set, dr3, dr4, AV.elem, AV.cells, AV.one, loadAV, faddrAV, binAV, storeAV, AV.putCells, AV.ref, if_true, if_false, Nat.reduceEqDiff, Nat.reduceAdd, Nat.reduceLT, Nat.reduceLeDiff, reduceCtorEq, ↓reduceIte, pickAV, lenAV, intAV, slcA, slcAV, iaddrAV, extAV, fldAV, eqCell, contAV, appendAV, maxI, minI, Option.some.injEq, catT, List.length_map, h1, h2]
      refine hK _ _ nofun ?_
      clear hK K
      exact CW.ret (finK_pure (.inr rfl) (xs := [.bool (decide (0 < l.length) && (decide (l.length ≤ 8) && (chk l == 0)))]) (by simp [resRV, Am.get, h1', h2']) rfl rfl)
  · have h1' : ¬ 0 < l.length := by omega
    refine CW.rI fun K hK => ?_
    unfold pts
    simp (maxSteps := 4000000) only [amC, amR, setO, Am.set, dr3, dr4, AV.elem, AV.cells, AV.one, loadAV, faddrAV, binAV, storeAV, AV.putCells, AV.ref, if_true, if_false, Nat.reduceEqDiff, Nat.reduceAdd, Nat.reduceLT, Nat.reduceLeDiff, reduceCtorEq, ↓reduceIte, pickAV, lenAV, intAV, slcA, slcAV, iaddrAV, extAV, fldAV, eqCell, contAV, appendAV, maxI, minI, Option.some.injEq, catT, List.length_map, h1]
    refine hK _ _ nofun ?_
    clear hK K
    exact CW.ret (finK_pure (.inr rfl) (xs := [.bool (decide (0 < l.length) && (decide (l.length ≤ 8) && (chk l == 0)))]) (by simp [resRV, Am.get, h1']) rfl rfl)
end Go.Hull
end
section
set_option linter.unusedSimpArgs false
set_option linter.unusedVariables false
namespace Go.Hull
open Go Go.Am Go.Proofs Go.ChangeShapes Go.WideShapes Go.ChangeAt Go.RowKit

section
variable {H : Type} {enc : TypeId × Value → H} {P : Program} {w : World} {base : Nat} {spare : Nat → Bool} {held : Bool}

/-- Two whole numbers in cells. -/
theorem cells_two {a : Addr} {cs : List Value} (h : w.cells? base a 2 = some cs) : ∃ u v, cs = [u, v] ∧ w.cell? (a.add 0) = some u ∧ w.cell? (a.add 1) = some v := by
  unfold World.cells? at h
  split at h <;> first | (cases h; done) | skip
  have hr : List.range 2 = [0, 1] := rfl
  rw [hr] at h
  simp only [List.mapM_cons, List.mapM_nil] at h
  cases h0 : w.cell? (a.add 0) with
  | none => simp [h0] at h
  | some u =>
    cases h1 : w.cell? (a.add 1) with
    | none => simp [h0, h1] at h
    | some v =>
      simp [h0, h1] at h
      exact ⟨u, v, h.symm, rfl, rfl⟩
theorem open_pts {t e k : TypeId} {fs : Array Field} {f0 f1 : Field} {fuel : Nat} {cs : List Value} {x : DataW H × List MemPlace} (ht : P.underlying t = some (.slice e)) (he : P.underlying e = some (.struct fs)) (hc : P.cellsOf e = 2)
    (h0 : fs[0]? = some f0) (h1 : fs[1]? = some f1) (t0 : f0.type = k) (t1 : f1.type = k) (o0 : f0.offset = 0) (o1 : f1.offset = 1) (hk : P.underlying k = some (.int .i64)) (hck : P.cellsOf k = 1)
    (h : DataW.trod enc P w base spare held fuel t cs = some x) :
    cs = [.slice none 0 0] ∨ ∃ (a : Addr) (len cap : Nat) (zs : List Pt), cs = [.slice (some a) len cap] ∧ len ≤ cap ∧ cap ≤ maxLen ∧ zs.length = len ∧
      ∀ (i : Nat) (p : Pt), zs[i]? = some p → w.cell? (a.add (i * 2)) = some (.int .i64 p.1) ∧ w.cell? (a.add (i * 2 + 1)) = some (.int .i64 p.2) := by
  rcases DataW.trod_slice ht h with ⟨rfl, -⟩ | ⟨a, len, cap, elems, rest, n, _, rfl, rfl, hb, hl, hm, hlen, hel, hsp, hns⟩
  · exact .inl rfl
  right
  have each : ∀ i, i < len → ∃ p : Pt, w.cell? (a.add (i * 2)) = some (.int .i64 p.1) ∧ w.cell? (a.add (i * 2 + 1)) = some (.int .i64 p.2) := by
    intro i hi
    have hi' := hel i hi
    obtain ⟨y, hy⟩ : ∃ y, elems[i]? = some y := ⟨elems[i]'(by omega), List.getElem?_eq_getElem (by omega)⟩
    rw [hy, hc, Option.bind_eq_some_iff] at hi'
    obtain ⟨cs', hcs, hy'⟩ := hi'
    obtain ⟨u, v, rfl, hu, hv⟩ := cells_two hcs
    obtain ⟨xs, m, -, -, -, hxl, hxf⟩ := DataW.trod_struct he hy'
    have e0 := hxf 0 f0 h0
    have e1 := hxf 1 f1 h1
    rw [t0, o0, hck] at e0
    rw [t1, o1, hck] at e1
    have l0 : 0 < xs.length := by rw [hxl]; exact (Array.getElem?_eq_some_iff.1 h0).1
    have l1 : 1 < xs.length := by rw [hxl]; exact (Array.getElem?_eq_some_iff.1 h1).1
    rw [List.getElem?_eq_getElem l0] at e0
    rw [List.getElem?_eq_getElem l1] at e1
    obtain ⟨n0, g0, -, -⟩ := DataW.trod_int hk e0
    obtain ⟨n1, g1, -, -⟩ := DataW.trod_int hk e1
    simp at g0 g1
    subst g0 g1
    refine ⟨(n0, n1), ?_, ?_⟩
    · simpa [Addr.add] using hu
    · have e : (a.add (i * 2)).add 1 = a.add (i * 2 + 1) := by
        unfold Addr.add
        by_cases h : i * 2 = 0 <;> simp [h] <;> omega
      rw [e] at hv
      exact hv
  refine ⟨a, len, cap, (List.range len).map (fun i => if h : i < len then (each i h).choose else (0, 0)), rfl, hl, hm, by simp, fun i p hp => ?_⟩
  rw [List.getElem?_map] at hp
  have hi : i < len := by
    refine Nat.lt_of_not_le fun hle => ?_
    rw [List.getElem?_eq_none (by simpa using hle)] at hp
    cases hp
  rw [List.getElem?_range hi] at hp
  simp only [Option.map_some, Option.some.injEq, dif_pos hi] at hp
  subst hp
  exact (each i hi).choose_spec
end

def k0 (w : World) : Am.K := { B := w.heap.size, prot := fun _ => 0, rho := fun _ _ => none, yl := none }
theorem k0_inv (w : World) : Inv (k0 w) (hget []) w := ⟨Nat.le_refl _, fun b => fun g => rfl, fun b b' loc loc' h => (by obtain ⟨g, frz, sz, xs, h1, _⟩ := h; cases h1), fun c h => absurd rfl h⟩
theorem rel_pts {w : World} {a : Addr} {len cap : Nat} {zs : List Pt} (hl : len ≤ cap) (hz : zs.length = len) (hcell : ∀ (i : Nat) (p : Pt), zs[i]? = some p → w.cell? (a.add (i * 2)) = some (.int .i64 p.1) ∧ w.cell? (a.add (i * 2 + 1)) = some (.int .i64 p.2)) :
    VRel (k0 w) w (pts zs) (.slice (some a) len cap) := by
  have hspot : zs ≠ [] → a.spot = none := fun hne => by
    obtain ⟨p, l, rfl⟩ := List.exists_cons_of_ne_nil hne
    have := (hcell 0 p rfl).1
    unfold World.cell? at this
    split at this <;> first | (cases this; done) | skip
    split at this <;> first | (cases this; done) | skip
    rename_i hs
    simpa [Addr.add] using hs
  have key : ∀ (k j : Nat) (x : AV), cellAt (zs.map pt) k j = some x → ∃ p, zs[k]? = some p ∧ ((j = 0 ∧ x = .int .i64 p.1) ∨ (j = 1 ∧ x = .int .i64 p.2)) := fun k j x hk => by
    unfold cellAt at hk
    rw [List.getElem?_map] at hk
    cases hq : zs[k]? with
    | none => simp [hq] at hk
    | some p =>
      simp only [hq, Option.map_some, Option.bind_some, pt, AV.cells] at hk
      refine ⟨p, rfl, ?_⟩
      match j with
      | 0 => left; simp at hk; exact ⟨rfl, hk.symm⟩
      | 1 => right; simp at hk; exact ⟨rfl, hk.symm⟩
      | j + 2 => simp at hk
  have hlen : (zs.map pt).length = len := by simpa using hz
  have := VRel.sv (κ := k0 w) (w := w) (vol := false) (sz := 2) (xs := zs.map pt) (some a) cap (fun k j => if j = 0 then .int .i64 (zs.getD k (0, 0)).1 else .int .i64 (zs.getD k (0, 0)).2) (by omega) nofun
    (fun hne => ⟨a, rfl, hspot (by rintro rfl; exact hne rfl)⟩)
    (fun p k j x hp hk => by
      cases hp
      obtain ⟨q, hq, hx⟩ := key k j x hk
      have hne : zs ≠ [] := by rintro rfl; simp at hq
      have hsp := hspot hne
      obtain ⟨c0, c1⟩ := hcell k q hq
      have hgd : zs.getD k (0, 0) = q := by simp [List.getD_eq_getElem?_getD, hq]
      have hpr : ∀ off v, w.cell? ⟨a.block, off, none⟩ = some v → Pr (k0 w) a.block off := fun off v hv => .inl (World.block_lt_of_cell? w ⟨a.block, off, none⟩ hv)
      rcases hx with ⟨rfl, -⟩ | ⟨rfl, -⟩
      · have e : (a.add (k * 2)) = ⟨a.block, a.off + k * 2 + 0, none⟩ := by
          obtain ⟨ab, ao, asp⟩ := a
          simp only at hsp
          subst hsp
          unfold Addr.add
          by_cases h : k * 2 = 0 <;> simp [h]
        rw [e] at c0
        simp only [if_true, hgd]
        exact ⟨c0, hpr _ _ c0⟩
      · have e : (a.add (k * 2 + 1)) = ⟨a.block, a.off + k * 2 + 1, none⟩ := by simp [Addr.add, hsp, Nat.add_assoc]
        rw [e] at c1
        rw [if_neg (by decide), hgd]
        exact ⟨c1, hpr _ _ c1⟩)
    (fun e he => by obtain ⟨p, -, rfl⟩ := List.mem_map.1 he; rfl)
    (fun k j x hk => by
      obtain ⟨q, hq, hx⟩ := key k j x hk
      have hgd : zs.getD k (0, 0) = q := by simp [List.getD_eq_getElem?_getD, hq]
      rcases hx with ⟨rfl, rfl⟩ | ⟨rfl, rfl⟩
      · rw [if_pos rfl, hgd]; exact .int _ _
      · rw [if_neg (by decide), hgd]; exact .int _ _)
  rw [hlen] at this
  exact this
theorem rel_nil (w : World) : VRel (k0 w) w (pts []) (.slice none 0 0) :=
  VRel.sv (vol := false) (sz := 2) (xs := []) none 0 (fun _ _ => undef) (Nat.le_refl _) nofun (fun h => absurd rfl h) (fun p k j x hp => by cases hp) (fun e he => by cases he) (fun k j x hk => by simp [cellAt] at hk)
/-- A law's contract as the machine's call. -/
theorem law_calls {f : Nat} {args : List AV} (hC : CallsF Try.prog f args [] (.bool true) []) {w : World} {vs : Array Value} (hl : args.length = vs.size) (hr : ∀ (i : Nat) (x : AV) (v : Value), args[i]? = some x → vs[i]? = some v → VRel (k0 w) w x v) :
    Calls Try.prog f vs w fun e w' => e = .returned (.bool true) ∧ Below w.heap.size w w' := by
  refine callsIn_wide.1 ((hC.calls (k0 w) w vs rfl (k0_inv w) hl hr).mono ?_)
  rintro e w' ⟨v, κ', rfl, hx, hi, hv, hc⟩
  cases hv
  refine ⟨rfl, ?_⟩
  have := hc.below (k0_inv w)
  exact this
end Go.Hull
end
section
set_option linter.unusedVariables false
namespace Go.Hull.Farthest
open Go Go.Am Go.Proofs Go.Proofs.Ytkbpkbjfphdgeaa Go.ChangeShapes Go.WideShapes Go.ChangeAt Go.RowKit

theorem own : ownKnob Try.prog.godebug = none := by kernel_rfl
theorem laidOut : laidOutB Try.prog = true := by kernel_rfl
def Contract : Prop := ∀ (x0 : List Pt), CallsF Try.prog 9 [pts x0] [] (.bool true) []
set_option maxRecDepth 100000 in
theorem lifted (hC : Contract) (os : Os) (started : os.Started) (H : Type) (enc : TypeId × Value → H) :
    ReturnsInHanded {} Try.checked os 9 .any (Rows.hullFarthestSpec.pre6 enc Try.prog Try.f9 Rows.hullFarthestRow.domain false) (Rows.hullFarthestSpec.post enc Try.prog Try.f9 false true false false) := by
  refine returnsInHanded_of_change_sized (C := Try.checked) own started (by kernel_rfl) Try.func9
    (ChangeSpec.witness6 (enc := enc) (C := Try.checked) false ⟨#[], #[.slice none 0 0], []⟩ 8 (by kernel_rfl) (by kernel_rfl) (by kernel_rfl) (by kernel_rfl)) ?_
  intro W base args ds gs before hval0 hW hcnd hsz0 _
  have hval : ∀ (j : Nat) t v, Try.f9.params[j]? = some t → args[j]? = some v → Value.okWide Try.prog W .any base t v := hval0
  have hW' := hW
  obtain ⟨p, q, hA0, hV, rfl, hfz, hnd⟩ := hW
  have hA : DataW.TrodAll enc Try.prog W 0 (fun _ => true) true Try.f9.params.toList args.toList ds p := hA0
  rw [Try.params9] at hA hval
  obtain ⟨v0, vs0, d0, ds0, p0, q0, hargs0, rfl, rfl, h0, r0⟩ := trodAll_cons hA
  obtain ⟨rfl, rfl, rfl⟩ := trodAll_nil r0
  obtain rfl : args = #[v0] := by cases args; simp_all
  obtain ⟨rfl, rfl⟩ := trodVars_none hV
  have kk0 := h0
  have lt0 : ∀ x ∈ p0, x.block < W.heap.size := by obtain ⟨m, hm⟩ := kk0; exact DataW.trod_lt m _ _ _ hm
  obtain ⟨a0, len0, cap0, rfl⟩ := okWide_slice Try.underlying22 (hval 0 22 v0 rfl rfl)
  obtain ⟨z0, hz0⟩ : ∃ zs : List Pt, VRel (k0 W) W (pts zs) (.slice a0 len0 cap0) := by
    obtain ⟨fuel, hf⟩ := h0
    rcases open_pts Try.underlying22 Try.underlying24 (by kernel_rfl) rfl rfl rfl rfl rfl rfl Try.underlying3 (by kernel_rfl) hf with hcs | ⟨a, len, cap, zs, hcs, hl, hm, hz, hcell⟩
    · simp [Value.cells] at hcs
      obtain ⟨rfl, rfl, rfl⟩ := hcs
      exact ⟨[], rel_nil W⟩
    · simp [Value.cells] at hcs
      obtain ⟨rfl, rfl, rfl⟩ := hcs
      exact ⟨zs, rel_pts hl hz hcell⟩
  clear hA0 hval0 hsz0
  refine (law_calls (hC z0) (w := W) (vs := #[.slice a0 len0 cap0]) rfl (fun i x v hx hv => ?_)).mono fun e W' ⟨he, bel⟩ => ?_
  · match i with
    | 0 => simp at hx hv; subst hx hv; exact hz0
    | i + 1 => simp at hx
  subst he
  exact ⟨_, rfl, _, _, _, [], _, [], hW', trodAll_mk1 (shut_bool Try.underlying4 _), (trodAll_cons_mk (Below.trod laidOut (by kernel_rfl) (of_decide_eq_true (by kernel_rfl)) kk0 bel lt0) trodAll_mk0), rfl, bel.frame _, fun h => by cases h⟩
theorem over (hC : Contract) : Rows.hullFarthestRow.holds Try.pinned (OpenSpec.ofChange Rows.hullFarthestSpec) :=
  OpenClaim.holds_of_wide 9 Try.f9 rfl rfl rfl rfl rfl rfl rfl ⟨rfl, rfl, rfl, rfl, rfl⟩ rfl rfl rfl rfl rfl (by kernel_rfl) Try.func9 (by kernel_rfl)
    (of_decide_eq_true (by kernel_rfl)) (by unfold Func.isWrapper; first | (rw [if_pos (by decide +kernel)]; kernel_rfl) | (rw [if_neg (by decide +kernel)]; exact ⟨rfl, rfl⟩))
    (fun os started H enc _ => lifted hC os started H enc)
end Go.Hull.Farthest
end
section
set_option linter.unusedSimpArgs false
set_option linter.unusedVariables false
namespace Go.Hull
open Go Go.Am Go.Proofs

theorem wr (n : Int) (h1 : -4611686018427387904 ≤ n) (h2 : n ≤ 4611686018427387904) : IntKind.i64.wrap n = n := IntWalk.i64_in _ (by omega)
theorem okP_iff {p : Pt} : okP p = true ↔ (-100000 ≤ p.1 ∧ p.1 ≤ 100000) ∧ (-100000 ≤ p.2 ∧ p.2 ≤ 100000) := by simp [okP, ok1]
theorem mul_bd {x y : Int} (h1 : -200000 ≤ x) (h2 : x ≤ 200000) (h3 : -200000 ≤ y) (h4 : y ≤ 200000) : -40000000000 ≤ x * y ∧ x * y ≤ 40000000000 := by
  have a1 := Int.mul_nonneg (show (0 : Int) ≤ 200000 - x by omega) (show (0 : Int) ≤ 200000 + y by omega)
  have a2 := Int.mul_nonneg (show (0 : Int) ≤ 200000 + x by omega) (show (0 : Int) ≤ 200000 - y by omega)
  have a3 := Int.mul_nonneg (show (0 : Int) ≤ 200000 - x by omega) (show (0 : Int) ≤ 200000 - y by omega)
  have a4 := Int.mul_nonneg (show (0 : Int) ≤ 200000 + x by omega) (show (0 : Int) ≤ 200000 + y by omega)
  simp only [Int.sub_mul, Int.add_mul, Int.mul_sub, Int.mul_add] at a1 a2 a3 a4
  have e : x * 200000 = 200000 * x := Int.mul_comm _ _
  omega
def sub (p q : Pt) : Pt := (p.1 - q.1, p.2 - q.2)
def turn (u v : Pt) : Int := u.1 * v.2 - u.2 * v.1
def left (p q r : Pt) : Int := turn (sub q p) (sub r p)
def before (p q : Pt) : Bool := decide (p.1 < q.1) || (p.1 == q.1 && decide (p.2 < q.2))
theorem c75 {p q : Pt} (hp : okP p = true) (hq : okP q = true) : CallsF Try.prog 75 [pt p, pt q] [] (pt (sub p q)) [] := by
  obtain ⟨⟨a1, a2⟩, a3, a4⟩ := okP_iff.1 hp
  obtain ⟨⟨b1, b2⟩, b3, b4⟩ := okP_iff.1 hq
  have e1 := wr (p.1 - q.1) (by omega) (by omega)
  have e2 := wr (p.2 - q.2) (by omega) (by omega)
  refine callsF_cw hm hf75 (by simp [cf75]) ?_
  simp only [cf75, argsAl]
  unfold pt
  refine CW.rI fun K hK => ?_
  simp (maxSteps := 4000000) only [amC, amR, setO, Am.set, dr3, dr4, AV.elem, AV.cells, AV.one, loadAV, faddrAV, binAV, storeAV, AV.putCells, AV.ref, if_true, if_false, Nat.reduceEqDiff, Nat.reduceAdd, Nat.reduceLT, Nat.reduceLeDiff, reduceCtorEq, ↓reduceIte, pickAV, lenAV, intAV, slcA, slcAV, iaddrAV, extAV, fldAV, eqCell, contAV, appendAV, maxI, minI, Option.some.injEq, catT, AV.cells, AV.elem, AV.one, List.all_cons, List.all_nil]
  refine hK _ _ nofun ?_
  clear hK K
  refine CW.rI fun K hK => ?_
  simp (maxSteps := 4000000) only [amC, amR, setO, Am.set, dr3, dr4, AV.elem, AV.cells, AV.one, loadAV, faddrAV, binAV, storeAV, AV.putCells, AV.ref, if_true, if_false, Nat.reduceEqDiff, Nat.reduceAdd, Nat.reduceLT, Nat.reduceLeDiff, reduceCtorEq, ↓reduceIte, pickAV, lenAV, intAV, slcA, slcAV, iaddrAV, extAV, fldAV, eqCell, contAV, appendAV, maxI, minI, Option.some.injEq, catT, AV.cells, AV.elem, AV.one, List.all_cons, List.all_nil, e1, e2, AV.putCells]
  refine hK _ _ nofun ?_
  clear hK K
  exact CW.ret (finK_pure (.inr rfl) (xs := [.agg [.int .i64 (p.1 - q.1), .int .i64 (p.2 - q.2)]]) (by simp [resRV, Am.get, loadAV, rowAt?, hget, AV.cells, loadCells']) rfl rfl)
def smallV (u : Pt) : Prop := (-200000 ≤ u.1 ∧ u.1 ≤ 200000) ∧ (-200000 ≤ u.2 ∧ u.2 ≤ 200000)
theorem sub_small {p q : Pt} (hp : okP p = true) (hq : okP q = true) : smallV (sub p q) := by
  obtain ⟨⟨a1, a2⟩, a3, a4⟩ := okP_iff.1 hp
  obtain ⟨⟨b1, b2⟩, b3, b4⟩ := okP_iff.1 hq
  simp only [smallV, sub]
  omega
theorem c74 {u v : Pt} (hu : smallV u) (hv : smallV v) : CallsF Try.prog 74 [pt u, pt v] [] (.int .i64 (turn u v)) [] := by
  obtain ⟨⟨a1, a2⟩, a3, a4⟩ := hu
  obtain ⟨⟨b1, b2⟩, b3, b4⟩ := hv
  have m1 := mul_bd a1 a2 b3 b4
  have m2 := mul_bd a3 a4 b1 b2
  have e1 := wr (u.1 * v.2) (by omega) (by omega)
  have e2 := wr (u.2 * v.1) (by omega) (by omega)
  have e3 := wr (u.1 * v.2 - u.2 * v.1) (by omega) (by omega)
  refine callsF_cw hm hf74 (by simp [cf74]) ?_
  simp only [cf74, argsAl]
  unfold pt
  refine CW.rI fun K hK => ?_
  simp (maxSteps := 4000000) only [amC, amR, setO, Am.set, dr3, dr4, AV.elem, AV.cells, AV.one, loadAV, faddrAV, binAV, storeAV, AV.putCells, AV.ref, if_true, if_false, Nat.reduceEqDiff, Nat.reduceAdd, Nat.reduceLT, Nat.reduceLeDiff, reduceCtorEq, ↓reduceIte, pickAV, lenAV, intAV, slcA, slcAV, iaddrAV, extAV, fldAV, eqCell, contAV, appendAV, maxI, minI, Option.some.injEq, catT, AV.cells, AV.elem, AV.one, List.all_cons, List.all_nil]
  refine hK _ _ nofun ?_
  clear hK K
  refine CW.rI fun K hK => ?_
  simp (maxSteps := 4000000) only [amC, amR, setO, Am.set, dr3, dr4, AV.elem, AV.cells, AV.one, loadAV, faddrAV, binAV, storeAV, AV.putCells, AV.ref, if_true, if_false, Nat.reduceEqDiff, Nat.reduceAdd, Nat.reduceLT, Nat.reduceLeDiff, reduceCtorEq, ↓reduceIte, pickAV, lenAV, intAV, slcA, slcAV, iaddrAV, extAV, fldAV, eqCell, contAV, appendAV, maxI, minI, Option.some.injEq, catT, AV.cells, e1, e2, e3]
  refine hK _ _ nofun ?_
  clear hK K
  exact CW.ret (finK_pure (.inr rfl) (xs := [.int .i64 (turn u v)]) (by simp [resRV, Am.get, turn]) rfl rfl)
theorem c33 {p q r : Pt} (hp : okP p = true) (hq : okP q = true) (hr : okP r = true) : CallsF Try.prog 33 [pt p, pt q, pt r] [] (.int .i64 (left p q r)) [] := by
  refine callsF_cw hm hf33 (by simp [cf33]) ?_
  simp only [cf33, argsAl]
  unfold pt
  refine CW.rI fun K hK => ?_
  simp (maxSteps := 4000000) only [amC, amR, setO, Am.set, dr3, dr4, AV.elem, AV.cells, AV.one, loadAV, faddrAV, binAV, storeAV, AV.putCells, AV.ref, if_true, if_false, Nat.reduceEqDiff, Nat.reduceAdd, Nat.reduceLT, Nat.reduceLeDiff, reduceCtorEq, ↓reduceIte, pickAV, lenAV, intAV, slcA, slcAV, iaddrAV, extAV, fldAV, eqCell, contAV, appendAV, maxI, minI, Option.some.injEq, catT, AV.cells, AV.elem, AV.one, List.all_cons, List.all_nil]
  refine hK _ _ nofun ?_
  clear hK K
  refine CW.rI fun K hK => ?_
  simp (maxSteps := 4000000) only [amC, amR, setO, Am.set, dr3, dr4, AV.elem, AV.cells, AV.one, loadAV, faddrAV, binAV, storeAV, AV.putCells, AV.ref, if_true, if_false, Nat.reduceEqDiff, Nat.reduceAdd, Nat.reduceLT, Nat.reduceLeDiff, reduceCtorEq, ↓reduceIte, pickAV, lenAV, intAV, slcA, slcAV, iaddrAV, extAV, fldAV, eqCell, contAV, appendAV, maxI, minI, Option.some.injEq, catT, AV.cells]
  refine RunCall.view (fid := 75) (caps := []) rfl rfl rfl (c75 hq hp) rfl ?_
  simp (maxSteps := 4000000) only [amC, amR, setO, Am.set, dr3, dr4, AV.elem, AV.cells, AV.one, loadAV, faddrAV, binAV, storeAV, AV.putCells, AV.ref, if_true, if_false, Nat.reduceEqDiff, Nat.reduceAdd, Nat.reduceLT, Nat.reduceLeDiff, reduceCtorEq, ↓reduceIte, pickAV, lenAV, intAV, slcA, slcAV, iaddrAV, extAV, fldAV, eqCell, contAV, appendAV, maxI, minI, Option.some.injEq, catT, AV.cells]
  refine RunCall.view (fid := 75) (caps := []) rfl rfl rfl (c75 hr hp) rfl ?_
  simp (maxSteps := 4000000) only [amC, amR, setO, Am.set, dr3, dr4, AV.elem, AV.cells, AV.one, loadAV, faddrAV, binAV, storeAV, AV.putCells, AV.ref, if_true, if_false, Nat.reduceEqDiff, Nat.reduceAdd, Nat.reduceLT, Nat.reduceLeDiff, reduceCtorEq, ↓reduceIte, pickAV, lenAV, intAV, slcA, slcAV, iaddrAV, extAV, fldAV, eqCell, contAV, appendAV, maxI, minI, Option.some.injEq, catT, AV.cells]
  refine RunCall.view (fid := 74) (caps := []) rfl rfl rfl (c74 (sub_small hq hp) (sub_small hr hp)) rfl ?_
  simp (maxSteps := 4000000) only [amC, amR, setO, Am.set, dr3, dr4, AV.elem, AV.cells, AV.one, loadAV, faddrAV, binAV, storeAV, AV.putCells, AV.ref, if_true, if_false, Nat.reduceEqDiff, Nat.reduceAdd, Nat.reduceLT, Nat.reduceLeDiff, reduceCtorEq, ↓reduceIte, pickAV, lenAV, intAV, slcA, slcAV, iaddrAV, extAV, fldAV, eqCell, contAV, appendAV, maxI, minI, Option.some.injEq, catT]
  refine hK _ _ (fun _ => rfl) ?_
  clear hK K
  exact CW.ret (finK_pure (.inr rfl) (xs := [.int .i64 (left p q r)]) (by simp [resRV, Am.get, left]) rfl rfl)
theorem c57' {p q : Pt} (hp : okP p = true) (hq : okP q = true) : CallsF Try.prog 57 [pt p, pt q] [] (pt (sub p q)) [] := by
  obtain ⟨⟨a1, a2⟩, a3, a4⟩ := okP_iff.1 hp
  obtain ⟨⟨b1, b2⟩, b3, b4⟩ := okP_iff.1 hq
  have e1 := wr (p.1 - q.1) (by omega) (by omega)
  have e2 := wr (p.2 - q.2) (by omega) (by omega)
  refine callsF_cw hm hf57 (by simp [cf57]) ?_
  simp only [cf57, argsAl]
  unfold pt
  refine CW.rI fun K hK => ?_
  simp (maxSteps := 4000000) only [amC, amR, setO, Am.set, dr3, dr4, AV.elem, AV.cells, AV.one, loadAV, faddrAV, binAV, storeAV, AV.putCells, AV.ref, if_true, if_false, Nat.reduceEqDiff, Nat.reduceAdd, Nat.reduceLT, Nat.reduceLeDiff, reduceCtorEq, ↓reduceIte, pickAV, lenAV, intAV, slcA, slcAV, iaddrAV, extAV, fldAV, eqCell, contAV, appendAV, maxI, minI, Option.some.injEq, catT, AV.cells, AV.elem, AV.one, List.all_cons, List.all_nil]
  refine hK _ _ nofun ?_
  clear hK K
  refine CW.rI fun K hK => ?_
  simp (maxSteps := 4000000) only [amC, amR, setO, Am.set, dr3, dr4, AV.elem, AV.cells, AV.one, loadAV, faddrAV, binAV, storeAV, AV.putCells, AV.ref, if_true, if_false, Nat.reduceEqDiff, Nat.reduceAdd, Nat.reduceLT, Nat.reduceLeDiff, reduceCtorEq, ↓reduceIte, pickAV, lenAV, intAV, slcA, slcAV, iaddrAV, extAV, fldAV, eqCell, contAV, appendAV, maxI, minI, Option.some.injEq, catT, AV.cells, AV.elem, AV.one, List.all_cons, List.all_nil, e1, e2, AV.putCells]
  refine hK _ _ nofun ?_
  clear hK K
  exact CW.ret (finK_pure (.inr rfl) (xs := [.agg [.int .i64 (p.1 - q.1), .int .i64 (p.2 - q.2)]]) (by simp [resRV, Am.get, loadAV, rowAt?, hget, AV.cells, loadCells']) rfl rfl)
theorem c55' {p q r : Pt} (hp : okP p = true) (hq : okP q = true) (hr : okP r = true) : CallsF Try.prog 55 [pt p, pt q, pt r] [] (.int .i64 (left p q r)) [] := by
  obtain ⟨⟨a1, a2⟩, a3, a4⟩ := sub_small hq hp
  obtain ⟨⟨b1, b2⟩, b3, b4⟩ := sub_small hr hp
  have m1 := mul_bd a1 a2 b3 b4
  have m2 := mul_bd a3 a4 b1 b2
  have e1 := wr ((sub q p).1 * (sub r p).2) (by omega) (by omega)
  have e2 := wr ((sub q p).2 * (sub r p).1) (by omega) (by omega)
  have e3 := wr ((sub q p).1 * (sub r p).2 - (sub q p).2 * (sub r p).1) (by omega) (by omega)
  refine callsF_cw hm hf55 (by simp [cf55]) ?_
  simp only [cf55, argsAl]
  unfold pt
  refine CW.rI fun K hK => ?_
  simp (maxSteps := 4000000) only [amC, amR, setO, Am.set, dr3, dr4, AV.elem, AV.cells, AV.one, loadAV, faddrAV, binAV, storeAV, AV.putCells, AV.ref, if_true, if_false, Nat.reduceEqDiff, Nat.reduceAdd, Nat.reduceLT, Nat.reduceLeDiff, reduceCtorEq, ↓reduceIte, pickAV, lenAV, intAV, slcA, slcAV, iaddrAV, extAV, fldAV, eqCell, contAV, appendAV, maxI, minI, Option.some.injEq, catT, AV.cells, AV.elem, AV.one, List.all_cons, List.all_nil]
  refine hK _ _ nofun ?_
  clear hK K
  refine CW.rI fun K hK => ?_
  simp (maxSteps := 4000000) only [amC, amR, setO, Am.set, dr3, dr4, AV.elem, AV.cells, AV.one, loadAV, faddrAV, binAV, storeAV, AV.putCells, AV.ref, if_true, if_false, Nat.reduceEqDiff, Nat.reduceAdd, Nat.reduceLT, Nat.reduceLeDiff, reduceCtorEq, ↓reduceIte, pickAV, lenAV, intAV, slcA, slcAV, iaddrAV, extAV, fldAV, eqCell, contAV, appendAV, maxI, minI, Option.some.injEq, catT, AV.cells]
  refine RunCall.view (fid := 57) (caps := []) rfl rfl rfl (c57' hq hp) rfl ?_
  simp (maxSteps := 4000000) only [amC, amR, setO, Am.set, dr3, dr4, AV.elem, AV.cells, AV.one, loadAV, faddrAV, binAV, storeAV, AV.putCells, AV.ref, if_true, if_false, Nat.reduceEqDiff, Nat.reduceAdd, Nat.reduceLT, Nat.reduceLeDiff, reduceCtorEq, ↓reduceIte, pickAV, lenAV, intAV, slcA, slcAV, iaddrAV, extAV, fldAV, eqCell, contAV, appendAV, maxI, minI, Option.some.injEq, catT, AV.cells]
  refine RunCall.view (fid := 57) (caps := []) rfl rfl rfl (c57' hr hp) rfl ?_
  simp (maxSteps := 4000000) only [amC, amR, setO, Am.set, dr3, dr4, AV.elem, AV.cells, AV.one, loadAV, faddrAV, binAV, storeAV, AV.putCells, AV.ref, if_true, if_false, Nat.reduceEqDiff, Nat.reduceAdd, Nat.reduceLT, Nat.reduceLeDiff, reduceCtorEq, ↓reduceIte, pickAV, lenAV, intAV, slcA, slcAV, iaddrAV, extAV, fldAV, eqCell, contAV, appendAV, maxI, minI, Option.some.injEq, catT, AV.cells, pt, AV.elem, AV.one, List.all_cons, List.all_nil, AV.putCells]
  refine hK _ _ (fun _ => rfl) ?_
  clear hK K
  refine CW.rI fun K hK => ?_
  simp (maxSteps := 4000000) only [amC, amR, setO, Am.set, dr3, dr4, AV.elem, AV.cells, AV.one, loadAV, faddrAV, binAV, storeAV, AV.putCells, AV.ref, if_true, if_false, Nat.reduceEqDiff, Nat.reduceAdd, Nat.reduceLT, Nat.reduceLeDiff, reduceCtorEq, ↓reduceIte, pickAV, lenAV, intAV, slcA, slcAV, iaddrAV, extAV, fldAV, eqCell, contAV, appendAV, maxI, minI, Option.some.injEq, catT, AV.cells, e1, e2, e3]
  refine hK _ _ nofun ?_
  clear hK K
  exact CW.ret (finK_pure (.inr rfl) (xs := [.int .i64 (left p q r)]) (by simp [resRV, Am.get, left, turn]) rfl rfl)
end Go.Hull
end
section
set_option linter.unusedSimpArgs false
set_option linter.unusedVariables false
namespace Go.Hull
open Go Go.Am Go.Proofs

def cmpI (x y : Int) : Int := if x < y then -1 else if y < x then 1 else 0
def cmpP (p q : Pt) : Int := if cmpI p.1 q.1 ≠ 0 then cmpI p.1 q.1 else cmpI p.2 q.2
theorem c115 (x : Int) : CallsF Try.prog 115 [.int .i64 x] [] (.bool false) [] := by
  have h : (x != x) = false := by simp
  refine callsF_cw hm hf115 (by simp [cf115]) ?_
  simp only [cf115, argsAl]
  refine CW.rI fun K hK => ?_
  simp (maxSteps := 4000000) only [amC, amR, setO, Am.set, dr3, dr4, AV.elem, AV.cells, AV.one, loadAV, faddrAV, binAV, storeAV, AV.putCells, AV.ref, if_true, if_false, Nat.reduceEqDiff, Nat.reduceAdd, Nat.reduceLT, Nat.reduceLeDiff, reduceCtorEq, ↓reduceIte, pickAV, lenAV, intAV, slcA, slcAV, iaddrAV, extAV, fldAV, eqCell, contAV, appendAV, maxI, minI, Option.some.injEq, catT]
  refine hK _ _ nofun ?_
  clear hK K
  refine CW.rI fun K hK => ?_
  simp (maxSteps := 4000000) only [amC, amR, setO, Am.set, dr3, dr4, AV.elem, AV.cells, AV.one, loadAV, faddrAV, binAV, storeAV, AV.putCells, AV.ref, if_true, if_false, Nat.reduceEqDiff, Nat.reduceAdd, Nat.reduceLT, Nat.reduceLeDiff, reduceCtorEq, ↓reduceIte, pickAV, lenAV, intAV, slcA, slcAV, iaddrAV, extAV, fldAV, eqCell, contAV, appendAV, maxI, minI, Option.some.injEq, catT, h]
  refine hK _ _ nofun ?_
  clear hK K
  exact CW.ret (finK_pure (.inr rfl) (xs := [.bool false]) (by simp [resRV, Am.get]) rfl rfl)
theorem c107 (x y : Int) : CallsF Try.prog 107 [.int .i64 x, .int .i64 y] [] (.int .i64 (cmpI x y)) [] := by
  refine callsF_cw hm hf107 (by simp [cf107]) ?_
  simp only [cf107, argsAl]
  refine CW.rI fun K hK => ?_
  simp (maxSteps := 4000000) only [amC, amR, setO, Am.set, dr3, dr4, AV.elem, AV.cells, AV.one, loadAV, faddrAV, binAV, storeAV, AV.putCells, AV.ref, if_true, if_false, Nat.reduceEqDiff, Nat.reduceAdd, Nat.reduceLT, Nat.reduceLeDiff, reduceCtorEq, ↓reduceIte, pickAV, lenAV, intAV, slcA, slcAV, iaddrAV, extAV, fldAV, eqCell, contAV, appendAV, maxI, minI, Option.some.injEq, catT]
  refine hK _ _ nofun ?_
  clear hK K
  refine CW.rI fun K hK => ?_
  simp (maxSteps := 4000000) only [amC, amR, setO, Am.set, dr3, dr4, AV.elem, AV.cells, AV.one, loadAV, faddrAV, binAV, storeAV, AV.putCells, AV.ref, if_true, if_false, Nat.reduceEqDiff, Nat.reduceAdd, Nat.reduceLT, Nat.reduceLeDiff, reduceCtorEq, ↓reduceIte, pickAV, lenAV, intAV, slcA, slcAV, iaddrAV, extAV, fldAV, eqCell, contAV, appendAV, maxI, minI, Option.some.injEq, catT]
  refine RunCall.view (fid := 115) (caps := []) rfl rfl rfl (c115 x) rfl ?_
  simp (maxSteps := 4000000) only [amC, amR, setO, Am.set, dr3, dr4, AV.elem, AV.cells, AV.one, loadAV, faddrAV, binAV, storeAV, AV.putCells, AV.ref, if_true, if_false, Nat.reduceEqDiff, Nat.reduceAdd, Nat.reduceLT, Nat.reduceLeDiff, reduceCtorEq, ↓reduceIte, pickAV, lenAV, intAV, slcA, slcAV, iaddrAV, extAV, fldAV, eqCell, contAV, appendAV, maxI, minI, Option.some.injEq, catT]
  refine hK _ _ nofun ?_
  clear hK K
  refine CW.rI fun K hK => ?_
  simp (maxSteps := 4000000) only [amC, amR, setO, Am.set, dr3, dr4, AV.elem, AV.cells, AV.one, loadAV, faddrAV, binAV, storeAV, AV.putCells, AV.ref, if_true, if_false, Nat.reduceEqDiff, Nat.reduceAdd, Nat.reduceLT, Nat.reduceLeDiff, reduceCtorEq, ↓reduceIte, pickAV, lenAV, intAV, slcA, slcAV, iaddrAV, extAV, fldAV, eqCell, contAV, appendAV, maxI, minI, Option.some.injEq, catT]
  refine RunCall.view (fid := 115) (caps := []) rfl rfl rfl (c115 y) rfl ?_
  simp (maxSteps := 4000000) only [amC, amR, setO, Am.set, dr3, dr4, AV.elem, AV.cells, AV.one, loadAV, faddrAV, binAV, storeAV, AV.putCells, AV.ref, if_true, if_false, Nat.reduceEqDiff, Nat.reduceAdd, Nat.reduceLT, Nat.reduceLeDiff, reduceCtorEq, ↓reduceIte, pickAV, lenAV, intAV, slcA, slcAV, iaddrAV, extAV, fldAV, eqCell, contAV, appendAV, maxI, minI, Option.some.injEq, catT]
  refine hK _ _ nofun ?_
  clear hK K
  refine CW.seq ?_
  refine CW.rI fun K hK => ?_
  simp (maxSteps := 4000000) only [amC, amR, setO, Am.set, dr3, dr4, AV.elem, AV.cells, AV.one, loadAV, faddrAV, binAV, storeAV, AV.putCells, AV.ref, if_true, if_false, Nat.reduceEqDiff, Nat.reduceAdd, Nat.reduceLT, Nat.reduceLeDiff, reduceCtorEq, ↓reduceIte, pickAV, lenAV, intAV, slcA, slcAV, iaddrAV, extAV, fldAV, eqCell, contAV, appendAV, maxI, minI, Option.some.injEq, catT]
  refine hK _ _ nofun ?_
  clear hK K
  refine CW.condF rfl (CW.skip ?_)
  show CW _ _ _ _ _ _
  refine CW.seq ?_
  refine CW.rI fun K hK => ?_
  simp (maxSteps := 4000000) only [amC, amR, setO, Am.set, dr3, dr4, AV.elem, AV.cells, AV.one, loadAV, faddrAV, binAV, storeAV, AV.putCells, AV.ref, if_true, if_false, Nat.reduceEqDiff, Nat.reduceAdd, Nat.reduceLT, Nat.reduceLeDiff, reduceCtorEq, ↓reduceIte, pickAV, lenAV, intAV, slcA, slcAV, iaddrAV, extAV, fldAV, eqCell, contAV, appendAV, maxI, minI, Option.some.injEq, catT]
  refine hK _ _ nofun ?_
  clear hK K
  refine CW.condF rfl (CW.skip ?_)
  show CW _ _ _ _ _ _
  refine CW.seq ?_
  by_cases h1 : x < y
  · refine CW.rI fun K hK => ?_
    simp (maxSteps := 4000000) only [amC, amR, setO, Am.set, dr3, dr4, AV.elem, AV.cells, AV.one, loadAV, faddrAV, binAV, storeAV, AV.putCells, AV.ref, if_true, if_false, Nat.reduceEqDiff, Nat.reduceAdd, Nat.reduceLT, Nat.reduceLeDiff, reduceCtorEq, ↓reduceIte, pickAV, lenAV, intAV, slcA, slcAV, iaddrAV, extAV, fldAV, eqCell, contAV, appendAV, maxI, minI, Option.some.injEq, catT, h1]
    refine hK _ _ nofun ?_
    clear hK K
    refine CW.condT rfl ?_
    refine CW.rI fun K hK => ?_
    simp (maxSteps := 4000000) only [amC, amR, setO, Am.set, dr3, dr4, AV.elem, AV.cells, AV.one, loadAV, faddrAV, binAV, storeAV, AV.putCells, AV.ref, if_true, if_false, Nat.reduceEqDiff, Nat.reduceAdd, Nat.reduceLT, Nat.reduceLeDiff, reduceCtorEq, ↓reduceIte, pickAV, lenAV, intAV, slcA, slcAV, iaddrAV, extAV, fldAV, eqCell, contAV, appendAV, maxI, minI, Option.some.injEq, catT]
    refine hK _ _ nofun ?_
    clear hK K
    exact CW.ret (finK_pure (.inr rfl) (xs := [.int .i64 (cmpI x y)]) (by simp [resRV, Am.get, cmpI, h1]) rfl rfl)
  · refine CW.rI fun K hK => ?_
    simp (maxSteps := 4000000) only [amC, amR, setO, Am.set, dr3, dr4, AV.elem, AV.cells, AV.one, loadAV, faddrAV, binAV, storeAV, AV.putCells, AV.ref, if_true, if_false, Nat.reduceEqDiff, Nat.reduceAdd, Nat.reduceLT, Nat.reduceLeDiff, reduceCtorEq, ↓reduceIte, pickAV, lenAV, intAV, slcA, slcAV, iaddrAV, extAV, fldAV, eqCell, contAV, appendAV, maxI, minI, Option.some.injEq, catT, h1]
    refine hK _ _ nofun ?_
    clear hK K
    refine CW.condF rfl (CW.skip ?_)
    show CW _ _ _ _ _ _
    refine CW.seq ?_
    by_cases h2 : y < x
    · refine CW.rI fun K hK => ?_
      simp (maxSteps := 4000000) only [amC, amR, setO, Am.set, dr3, dr4, AV.elem, AV.cells, AV.one, loadAV, faddrAV, binAV, storeAV, AV.putCells, AV.ref, if_true, if_false, Nat.reduceEqDiff, Nat.reduceAdd, Nat.reduceLT, Nat.reduceLeDiff, reduceCtorEq, ↓reduceIte, pickAV, lenAV, intAV, slcA, slcAV, iaddrAV, extAV, fldAV, eqCell, contAV, appendAV, maxI, minI, Option.some.injEq, catT, h2]
      refine hK _ _ nofun ?_
      clear hK K
      refine CW.condT rfl ?_
      refine CW.rI fun K hK => ?_
      simp (maxSteps := 4000000) only [amC, amR, setO, Am.set, dr3, dr4, AV.elem, AV.cells, AV.one, loadAV, faddrAV, binAV, storeAV, AV.putCells, AV.ref, if_true, if_false, Nat.reduceEqDiff, Nat.reduceAdd, Nat.reduceLT, Nat.reduceLeDiff, reduceCtorEq, ↓reduceIte, pickAV, lenAV, intAV, slcA, slcAV, iaddrAV, extAV, fldAV, eqCell, contAV, appendAV, maxI, minI, Option.some.injEq, catT]
      refine hK _ _ nofun ?_
      clear hK K
      exact CW.ret (finK_pure (.inr rfl) (xs := [.int .i64 (cmpI x y)]) (by simp [resRV, Am.get, cmpI, h1, h2]) rfl rfl)
    · refine CW.rI fun K hK => ?_
      simp (maxSteps := 4000000) only [amC, amR, setO, Am.set, dr3, dr4, AV.elem, AV.cells, AV.one, loadAV, faddrAV, binAV, storeAV, AV.putCells, AV.ref, if_true, if_false, Nat.reduceEqDiff, Nat.reduceAdd, Nat.reduceLT, Nat.reduceLeDiff, reduceCtorEq, ↓reduceIte, pickAV, lenAV, intAV, slcA, slcAV, iaddrAV, extAV, fldAV, eqCell, contAV, appendAV, maxI, minI, Option.some.injEq, catT, h2]
      refine hK _ _ nofun ?_
      clear hK K
      refine CW.condF rfl (CW.skip ?_)
      show CW _ _ _ _ _ _
      refine CW.rI fun K hK => ?_
      simp (maxSteps := 4000000) only [amC, amR, setO, Am.set, dr3, dr4, AV.elem, AV.cells, AV.one, loadAV, faddrAV, binAV, storeAV, AV.putCells, AV.ref, if_true, if_false, Nat.reduceEqDiff, Nat.reduceAdd, Nat.reduceLT, Nat.reduceLeDiff, reduceCtorEq, ↓reduceIte, pickAV, lenAV, intAV, slcA, slcAV, iaddrAV, extAV, fldAV, eqCell, contAV, appendAV, maxI, minI, Option.some.injEq, catT]
      refine hK _ _ nofun ?_
      clear hK K
      exact CW.ret (finK_pure (.inr rfl) (xs := [.int .i64 (cmpI x y)]) (by simp [resRV, Am.get, cmpI, h1, h2]) rfl rfl)
theorem c106 (x y : Int) : CallsF Try.prog 106 [.sv false 1 [.int .i64 x, .int .i64 y]] [] (.int .i64 (if x ≠ 0 then x else y)) [] := by
  refine callsF_cw hm hf106 (by simp [cf106]) ?_
  simp only [cf106, argsAl]
  refine CW.rI fun K hK => ?_
  simp (maxSteps := 4000000) only [amC, amR, setO, Am.set, dr3, dr4, AV.elem, AV.cells, AV.one, loadAV, faddrAV, binAV, storeAV, AV.putCells, AV.ref, if_true, if_false, Nat.reduceEqDiff, Nat.reduceAdd, Nat.reduceLT, Nat.reduceLeDiff, reduceCtorEq, ↓reduceIte, pickAV, lenAV, intAV, slcA, slcAV, iaddrAV, extAV, fldAV, eqCell, contAV, appendAV, maxI, minI, Option.some.injEq, catT]
  refine hK _ _ nofun ?_
  clear hK K
  refine CW.rI fun K hK => ?_
  simp (maxSteps := 4000000) only [amC, amR, setO, Am.set, dr3, dr4, AV.elem, AV.cells, AV.one, loadAV, faddrAV, binAV, storeAV, AV.putCells, AV.ref, if_true, if_false, Nat.reduceEqDiff, Nat.reduceAdd, Nat.reduceLT, Nat.reduceLeDiff, reduceCtorEq, ↓reduceIte, pickAV, lenAV, intAV, slcA, slcAV, iaddrAV, extAV, fldAV, eqCell, contAV, appendAV, maxI, minI, Option.some.injEq, catT]
  refine hK _ _ nofun ?_
  clear hK K
  refine CW.seq ?_
  refine CW.rI fun K hK => ?_
  simp (maxSteps := 4000000) only [amC, amR, setO, Am.set, dr3, dr4, AV.elem, AV.cells, AV.one, loadAV, faddrAV, binAV, storeAV, AV.putCells, AV.ref, if_true, if_false, Nat.reduceEqDiff, Nat.reduceAdd, Nat.reduceLT, Nat.reduceLeDiff, reduceCtorEq, ↓reduceIte, pickAV, lenAV, intAV, slcA, slcAV, iaddrAV, extAV, fldAV, eqCell, contAV, appendAV, maxI, minI, Option.some.injEq, catT]
  refine hK _ _ nofun ?_
  clear hK K
  refine CW.block ?_
  refine CW.loopF (fun i => 2 - i) (fun i => ⟨[(0, .sv false 1 [.int .i64 x, .int .i64 y]), (3, .int .i64 0), (6, .sv false 1 [.int .i64 x, .int .i64 y]), (7, .int .i64 2), (8, .int .i64 (i : Nat))], []⟩) (fun i => i ≤ 2 ∧ (0 < i → x = 0) ∧ (1 < i → y = 0)) (fun i hi => ?_) 0 ⟨by omega, by omega, by omega⟩ _ (Fgt.mk' 0 (by simp) (by simp [keepB, Am.get, AV.lt, ltL]) rfl trivial)
  obtain ⟨hi1, hx, hy⟩ := hi
  have hi3 : i = 0 ∨ i = 1 ∨ i = 2 := by omega
  rcases hi3 with rfl | rfl | rfl
  · refine CW.rI fun K hK => ?_
    simp (maxSteps := 4000000) only [amC, amR, setO, Am.set, dr3, dr4, AV.elem, AV.cells, AV.one, loadAV, faddrAV, binAV, storeAV, AV.putCells, AV.ref, if_true, if_false, Nat.reduceEqDiff, Nat.reduceAdd, Nat.reduceLT, Nat.reduceLeDiff, reduceCtorEq, ↓reduceIte, pickAV, lenAV, intAV, slcA, slcAV, iaddrAV, extAV, fldAV, eqCell, contAV, appendAV, maxI, minI, Option.some.injEq, catT, show ((0 : Nat) : Int) < 2 from by decide]
    refine hK _ _ nofun ?_
    clear hK K
    refine CW.seq ?_
    refine CW.condT rfl (CW.skip ?_)
    show CW _ _ _ _ _ _
    refine CW.seq ?_
    refine CW.block ?_
    refine CW.rI fun K hK => ?_
    simp (maxSteps := 4000000) only [amC, amR, setO, Am.set, dr3, dr4, AV.elem, AV.cells, AV.one, loadAV, faddrAV, binAV, storeAV, AV.putCells, AV.ref, if_true, if_false, Nat.reduceEqDiff, Nat.reduceAdd, Nat.reduceLT, Nat.reduceLeDiff, reduceCtorEq, ↓reduceIte, pickAV, lenAV, intAV, slcA, slcAV, iaddrAV, extAV, fldAV, eqCell, contAV, appendAV, maxI, minI, Option.some.injEq, catT, show ((0 : Nat) : Int) = 0 from rfl, show (0 : Int) < 2 from by decide, Int.toNat_zero, Int.le_refl, show (0 : Int) < ((2 : Nat) : Int) from by decide, AV.cells]
    refine hK _ _ nofun ?_
    clear hK K
    by_cases h : x = 0
    · have hb : (x != 0) = false := by simp [h]
      refine CW.rI fun K hK => ?_
      simp (maxSteps := 4000000) only [amC, amR, setO, Am.set, dr3, dr4, AV.elem, AV.cells, AV.one, loadAV, faddrAV, binAV, storeAV, AV.putCells, AV.ref, if_true, if_false, Nat.reduceEqDiff, Nat.reduceAdd, Nat.reduceLT, Nat.reduceLeDiff, reduceCtorEq, ↓reduceIte, pickAV, lenAV, intAV, slcA, slcAV, iaddrAV, extAV, fldAV, eqCell, contAV, appendAV, maxI, minI, Option.some.injEq, catT, hb]
      refine hK _ _ nofun ?_
      clear hK K
      refine CW.condF rfl (CW.skip ?_)
      show CW _ _ _ _ _ _
      refine CW.rE fun K hK => ?_
      simp (maxSteps := 4000000) only [amC, amR, setO, Am.set, dr3, dr4, AV.elem, AV.cells, AV.one, loadAV, faddrAV, binAV, storeAV, AV.putCells, AV.ref, if_true, if_false, Nat.reduceEqDiff, Nat.reduceAdd, Nat.reduceLT, Nat.reduceLeDiff, reduceCtorEq, ↓reduceIte, pickAV, lenAV, intAV, slcA, slcAV, iaddrAV, extAV, fldAV, eqCell, contAV, appendAV, maxI, minI, Option.some.injEq, catT, show IntKind.i64.wrap ((0 : Int) + 1) = ((1 : Nat) : Int) from by decide]
      refine hK _ _ nofun ?_
      clear hK K
      exact ⟨1, by omega, ⟨by omega, fun _ => h, by omega⟩, Fgt.mk' 0 (by simp) (by simp [keepB, Am.get, AV.lt, ltL]) rfl trivial⟩
    · have hb : (x != 0) = true := by simp [h]
      refine CW.rI fun K hK => ?_
      simp (maxSteps := 4000000) only [amC, amR, setO, Am.set, dr3, dr4, AV.elem, AV.cells, AV.one, loadAV, faddrAV, binAV, storeAV, AV.putCells, AV.ref, if_true, if_false, Nat.reduceEqDiff, Nat.reduceAdd, Nat.reduceLT, Nat.reduceLeDiff, reduceCtorEq, ↓reduceIte, pickAV, lenAV, intAV, slcA, slcAV, iaddrAV, extAV, fldAV, eqCell, contAV, appendAV, maxI, minI, Option.some.injEq, catT, hb]
      refine hK _ _ nofun ?_
      clear hK K
      refine CW.condT rfl ?_
      refine CW.rI fun K hK => ?_
      simp (maxSteps := 4000000) only [amC, amR, setO, Am.set, dr3, dr4, AV.elem, AV.cells, AV.one, loadAV, faddrAV, binAV, storeAV, AV.putCells, AV.ref, if_true, if_false, Nat.reduceEqDiff, Nat.reduceAdd, Nat.reduceLT, Nat.reduceLeDiff, reduceCtorEq, ↓reduceIte, pickAV, lenAV, intAV, slcA, slcAV, iaddrAV, extAV, fldAV, eqCell, contAV, appendAV, maxI, minI, Option.some.injEq, catT]
      refine hK _ _ nofun ?_
      clear hK K
      exact CW.ret (finK_pure (.inr rfl) (xs := [.int .i64 (if x ≠ 0 then x else y)]) (by simp [resRV, Am.get, h]) rfl rfl)
  · refine CW.rI fun K hK => ?_
    simp (maxSteps := 4000000) only [amC, amR, setO, Am.set, dr3, dr4, AV.elem, AV.cells, AV.one, loadAV, faddrAV, binAV, storeAV, AV.putCells, AV.ref, if_true, if_false, Nat.reduceEqDiff, Nat.reduceAdd, Nat.reduceLT, Nat.reduceLeDiff, reduceCtorEq, ↓reduceIte, pickAV, lenAV, intAV, slcA, slcAV, iaddrAV, extAV, fldAV, eqCell, contAV, appendAV, maxI, minI, Option.some.injEq, catT, show ((1 : Nat) : Int) < 2 from by decide]
    refine hK _ _ nofun ?_
    clear hK K
    refine CW.seq ?_
    refine CW.condT rfl (CW.skip ?_)
    show CW _ _ _ _ _ _
    refine CW.seq ?_
    refine CW.block ?_
    refine CW.rI fun K hK => ?_
    simp (maxSteps := 4000000) only [amC, amR, setO, Am.set, dr3, dr4, AV.elem, AV.cells, AV.one, loadAV, faddrAV, binAV, storeAV, AV.putCells, AV.ref, if_true, if_false, Nat.reduceEqDiff, Nat.reduceAdd, Nat.reduceLT, Nat.reduceLeDiff, reduceCtorEq, ↓reduceIte, pickAV, lenAV, intAV, slcA, slcAV, iaddrAV, extAV, fldAV, eqCell, contAV, appendAV, maxI, minI, Option.some.injEq, catT, show (0 : Int) ≤ ((1 : Nat) : Int) from by decide, show ((1 : Nat) : Int) < ((2 : Nat) : Int) from by decide, Int.toNat_natCast, AV.cells]
    refine hK _ _ nofun ?_
    clear hK K
    by_cases h : y = 0
    · have hb : (y != 0) = false := by simp [h]
      refine CW.rI fun K hK => ?_
      simp (maxSteps := 4000000) only [amC, amR, setO, Am.set, dr3, dr4, AV.elem, AV.cells, AV.one, loadAV, faddrAV, binAV, storeAV, AV.putCells, AV.ref, if_true, if_false, Nat.reduceEqDiff, Nat.reduceAdd, Nat.reduceLT, Nat.reduceLeDiff, reduceCtorEq, ↓reduceIte, pickAV, lenAV, intAV, slcA, slcAV, iaddrAV, extAV, fldAV, eqCell, contAV, appendAV, maxI, minI, Option.some.injEq, catT, hb]
      refine hK _ _ nofun ?_
      clear hK K
      refine CW.condF rfl (CW.skip ?_)
      show CW _ _ _ _ _ _
      refine CW.rE fun K hK => ?_
      simp (maxSteps := 4000000) only [amC, amR, setO, Am.set, dr3, dr4, AV.elem, AV.cells, AV.one, loadAV, faddrAV, binAV, storeAV, AV.putCells, AV.ref, if_true, if_false, Nat.reduceEqDiff, Nat.reduceAdd, Nat.reduceLT, Nat.reduceLeDiff, reduceCtorEq, ↓reduceIte, pickAV, lenAV, intAV, slcA, slcAV, iaddrAV, extAV, fldAV, eqCell, contAV, appendAV, maxI, minI, Option.some.injEq, catT, show IntKind.i64.wrap (((1 : Nat) : Int) + 1) = ((2 : Nat) : Int) from by decide]
      refine hK _ _ nofun ?_
      clear hK K
      exact ⟨2, by omega, ⟨by omega, fun _ => hx (by omega), fun _ => h⟩, Fgt.mk' 0 (by simp) (by simp [keepB, Am.get, AV.lt, ltL]) rfl trivial⟩
    · have hb : (y != 0) = true := by simp [h]
      have hx0 : x = 0 := hx (by omega)
      refine CW.rI fun K hK => ?_
      simp (maxSteps := 4000000) only [amC, amR, setO, Am.set, dr3, dr4, AV.elem, AV.cells, AV.one, loadAV, faddrAV, binAV, storeAV, AV.putCells, AV.ref, if_true, if_false, Nat.reduceEqDiff, Nat.reduceAdd, Nat.reduceLT, Nat.reduceLeDiff, reduceCtorEq, ↓reduceIte, pickAV, lenAV, intAV, slcA, slcAV, iaddrAV, extAV, fldAV, eqCell, contAV, appendAV, maxI, minI, Option.some.injEq, catT, hb]
      refine hK _ _ nofun ?_
      clear hK K
      refine CW.condT rfl ?_
      refine CW.rI fun K hK => ?_
      simp (maxSteps := 4000000) only [amC, amR, setO, Am.set, dr3, dr4, AV.elem, AV.cells, AV.one, loadAV, faddrAV, binAV, storeAV, AV.putCells, AV.ref, if_true, if_false, Nat.reduceEqDiff, Nat.reduceAdd, Nat.reduceLT, Nat.reduceLeDiff, reduceCtorEq, ↓reduceIte, pickAV, lenAV, intAV, slcA, slcAV, iaddrAV, extAV, fldAV, eqCell, contAV, appendAV, maxI, minI, Option.some.injEq, catT]
      refine hK _ _ nofun ?_
      clear hK K
      exact CW.ret (finK_pure (.inr rfl) (xs := [.int .i64 (if x ≠ 0 then x else y)]) (by simp [resRV, Am.get, hx0]) rfl rfl)
  · refine CW.rI fun K hK => ?_
    simp (maxSteps := 4000000) only [amC, amR, setO, Am.set, dr3, dr4, AV.elem, AV.cells, AV.one, loadAV, faddrAV, binAV, storeAV, AV.putCells, AV.ref, if_true, if_false, Nat.reduceEqDiff, Nat.reduceAdd, Nat.reduceLT, Nat.reduceLeDiff, reduceCtorEq, ↓reduceIte, pickAV, lenAV, intAV, slcA, slcAV, iaddrAV, extAV, fldAV, eqCell, contAV, appendAV, maxI, minI, Option.some.injEq, catT, show ¬ ((2 : Nat) : Int) < 2 from by decide]
    refine hK _ _ nofun ?_
    clear hK K
    refine CW.seq ?_
    refine CW.condF rfl (CW.exit ?_)
    show CW _ _ _ _ _ _
    refine CW.rI fun K hK => ?_
    simp (maxSteps := 4000000) only [amC, amR, setO, Am.set, dr3, dr4, AV.elem, AV.cells, AV.one, loadAV, faddrAV, binAV, storeAV, AV.putCells, AV.ref, if_true, if_false, Nat.reduceEqDiff, Nat.reduceAdd, Nat.reduceLT, Nat.reduceLeDiff, reduceCtorEq, ↓reduceIte, pickAV, lenAV, intAV, slcA, slcAV, iaddrAV, extAV, fldAV, eqCell, contAV, appendAV, maxI, minI, Option.some.injEq, catT]
    refine hK _ _ nofun ?_
    clear hK K
    have hx0 : x = 0 := hx (by omega)
    have hy0 : y = 0 := hy (by omega)
    exact CW.ret (finK_pure (.inr rfl) (xs := [.int .i64 (if x ≠ 0 then x else y)]) (by simp [resRV, Am.get, hx0, hy0]) rfl rfl)
theorem c105 {l : List Pt} {i k : Nat} {p q : Pt} (hi : l[i]? = some p) (hk : l[k]? = some q) : CallsF Try.prog 105 [.int .i64 (i : Int), .int .i64 (k : Int), .rp true [pts l]] [] (.int .i64 (cmpP p q)) [] := by
  have hil : (i : Int) < (l.length : Int) := by have := (List.getElem?_eq_some_iff.1 hi).1; omega
  have hkl : (k : Int) < (l.length : Int) := by have := (List.getElem?_eq_some_iff.1 hk).1; omega
  have hpi := get_pts hi
  have hpk := get_pts hk
  refine callsF_cw hm hf105 (by simp [cf105]) ?_
  simp only [cf105, argsAl]
  refine CW.rI fun K hK => ?_
  simp (maxSteps := 4000000) only [amC, amR, setO, Am.set, dr3, dr4, AV.elem, AV.cells, AV.one, loadAV, faddrAV, binAV, storeAV, AV.putCells, AV.ref, if_true, if_false, Nat.reduceEqDiff, Nat.reduceAdd, Nat.reduceLT, Nat.reduceLeDiff, reduceCtorEq, ↓reduceIte, pickAV, lenAV, intAV, slcA, slcAV, iaddrAV, extAV, fldAV, eqCell, contAV, appendAV, maxI, minI, Option.some.injEq, catT]
  refine hK _ _ nofun ?_
  clear hK K
  unfold pts
  refine CW.rI fun K hK => ?_
  simp (maxSteps := 4000000) only [amC, amR, setO, Am.set, dr3, dr4, AV.elem, AV.cells, AV.one, loadAV, faddrAV, binAV, storeAV, AV.putCells, AV.ref, if_true, if_false, Nat.reduceEqDiff, Nat.reduceAdd, Nat.reduceLT, Nat.reduceLeDiff, reduceCtorEq, ↓reduceIte, pickAV, lenAV, intAV, slcA, slcAV, iaddrAV, extAV, fldAV, eqCell, contAV, appendAV, maxI, minI, Option.some.injEq, catT, List.length_map, hil, hkl, hpi, hpk, Int.toNat_natCast, Int.natCast_nonneg, AV.cells, pt]
  refine RunCall.view (fid := 107) (caps := []) rfl rfl rfl (c107 p.1 q.1) rfl ?_
  simp (maxSteps := 4000000) only [amC, amR, setO, Am.set, dr3, dr4, AV.elem, AV.cells, AV.one, loadAV, faddrAV, binAV, storeAV, AV.putCells, AV.ref, if_true, if_false, Nat.reduceEqDiff, Nat.reduceAdd, Nat.reduceLT, Nat.reduceLeDiff, reduceCtorEq, ↓reduceIte, pickAV, lenAV, intAV, slcA, slcAV, iaddrAV, extAV, fldAV, eqCell, contAV, appendAV, maxI, minI, Option.some.injEq, catT, List.length_map, hil, hkl, hpi, hpk, Int.toNat_natCast, Int.natCast_nonneg, AV.cells, pt]
  refine RunCall.view (fid := 107) (caps := []) rfl rfl rfl (c107 p.2 q.2) rfl ?_
  simp (maxSteps := 4000000) only [amC, amR, setO, Am.set, dr3, dr4, AV.elem, AV.cells, AV.one, loadAV, faddrAV, binAV, storeAV, AV.putCells, AV.ref, if_true, if_false, Nat.reduceEqDiff, Nat.reduceAdd, Nat.reduceLT, Nat.reduceLeDiff, reduceCtorEq, ↓reduceIte, pickAV, lenAV, intAV, slcA, slcAV, iaddrAV, extAV, fldAV, eqCell, contAV, appendAV, maxI, minI, Option.some.injEq, catT, beq_self_eq_true, Bool.and_self]
  refine RunCall.view (fid := 106) (caps := []) rfl rfl rfl (c106 (cmpI p.1 q.1) (cmpI p.2 q.2)) rfl ?_
  simp (maxSteps := 4000000) only [amC, amR, setO, Am.set, dr3, dr4, AV.elem, AV.cells, AV.one, loadAV, faddrAV, binAV, storeAV, AV.putCells, AV.ref, if_true, if_false, Nat.reduceEqDiff, Nat.reduceAdd, Nat.reduceLT, Nat.reduceLeDiff, reduceCtorEq, ↓reduceIte, pickAV, lenAV, intAV, slcA, slcAV, iaddrAV, extAV, fldAV, eqCell, contAV, appendAV, maxI, minI, Option.some.injEq, catT]
  refine hK _ _ (fun _ => rfl) ?_
  clear hK K
  exact CW.ret (finK_pure (.inr rfl) (xs := [.int .i64 (cmpP p q)]) (by simp [resRV, Am.get, cmpP]) rfl rfl)
end Go.Hull
end
