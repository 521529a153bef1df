/- Points in range: walks.
   Conditions: none. -/
import Derived.Test.YtkbpkbjfphdgeaaHT
import Derived.Test.YtkbpkbjfphdgeaaAm14
set_option linter.unusedSimpArgs false
set_option linter.unusedVariables false
namespace Go.Hull
open Go Go.Am Go.Proofs

abbrev Pt := Int × Int
def pt (p : Pt) : AV := .agg [.int .i64 p.1, .int .i64 p.2]
def pts (l : List Pt) : AV := .sv false 2 (l.map pt)
def ok1 (n : Int) : Bool := decide (-100000 ≤ n) && decide (n ≤ 100000)
def okP (p : Pt) : Bool := ok1 p.1 && ok1 p.2
def chk (l : List Pt) : Int := if 64 < l.length then 5 else if l.all okP = true then 0 else 2

theorem flat_pts (l : List Pt) (n : Nat) : flatN true (n + 3) (pts l) = true := by
  simp only [pts, flatN]
  induction l with
  | nil => rfl
  | cons p l ih => simp only [List.map_cons, allB, pt, flatN]; exact ih
theorem lt_pt (p : Pt) (m : Nat) : (pt p).lt m = true := rfl
theorem ltL_pt (l : List Pt) (m : Nat) : ltL m (l.map pt) = true := by
  induction l with
  | nil => rfl
  | cons p l ih => simp only [List.map_cons, ltL, lt_pt, ih, Bool.and_self]
theorem lt_pts (l : List Pt) (m : Nat) : (pts l).lt m = true := by simp only [pts, AV.lt, ltL_pt]
theorem wrap_nat (i : Nat) (h : i < 4611686018427387904) : IntKind.i64.wrap ((i : Int) + 1) = ((i + 1 : Nat) : Int) := by
  rw [IntWalk.i64_in]
  · omega
  · omega
theorem get_pts {l : List Pt} {i : Nat} {p : Pt} (h : l[i]? = some p) : (l.map pt)[i]? = some (pt p) := by simp [h]

theorem c91 (n : Int) : CallsF Try.prog 91 [.int .i64 n] [] (.bool (ok1 n)) [] := by
  refine callsF_cw hm hf91 (by simp [cf91]) ?_
  simp only [cf91, argsAl]
  by_cases h1 : -100000 ≤ n
  · refine CW.rI fun K hK => ?_
    simp (maxSteps := 4000000) only [amC, amR, evsA, evpA, elemsA, elemsP, sizedA, optA, refA, setO, Am.set, Am.get, AV.elem, AV.cells, AV.one, hsetL, hset, hget, loadAV, rowAt?, loadCells', faddrAV, binAV, fillA, storeAV, AV.putCells, AV.ref, List.foldl, List.all, List.map, List.set, List.take, List.drop, Option.getD, Option.map, if_true, if_false, Nat.reduceEqDiff, Nat.reduceAdd, Nat.reduceLT, Nat.reduceLeDiff, reduceCtorEq, ↓reduceIte, pickAV, lenAV, intAV, slcA, slcAV, iaddrAV, extAV, fldAV, eqCells, eqCell, contAV, appendAV, foldAV, maxI, minI, Option.some.injEq, catT]
    refine hK _ _ nofun ?_
    clear hK K
    refine CW.rI fun K hK => ?_
    simp (maxSteps := 4000000) only [amC, amR, evsA, evpA, elemsA, elemsP, sizedA, optA, refA, setO, Am.set, Am.get, AV.elem, AV.cells, AV.one, hsetL, hset, hget, loadAV, rowAt?, loadCells', faddrAV, binAV, fillA, storeAV, AV.putCells, AV.ref, List.foldl, List.all, List.map, List.set, List.take, List.drop, Option.getD, Option.map, if_true, if_false, Nat.reduceEqDiff, Nat.reduceAdd, Nat.reduceLT, Nat.reduceLeDiff, reduceCtorEq, ↓reduceIte, pickAV, lenAV, intAV, slcA, slcAV, iaddrAV, extAV, fldAV, eqCells, eqCell, contAV, appendAV, foldAV, maxI, minI, Option.some.injEq, catT, h1]
    refine hK _ _ nofun ?_
    clear hK K
    exact CW.ret (finK_pure (.inr rfl) (xs := [.bool (ok1 n)]) (by simp [resRV, Am.get, ok1, h1]) rfl rfl)
  · refine CW.rI fun K hK => ?_
    simp (maxSteps := 4000000) only [amC, amR, evsA, evpA, elemsA, elemsP, sizedA, optA, refA, setO, Am.set, Am.get, AV.elem, AV.cells, AV.one, hsetL, hset, hget, loadAV, rowAt?, loadCells', faddrAV, binAV, fillA, storeAV, AV.putCells, AV.ref, List.foldl, List.all, List.map, List.set, List.take, List.drop, Option.getD, Option.map, if_true, if_false, Nat.reduceEqDiff, Nat.reduceAdd, Nat.reduceLT, Nat.reduceLeDiff, reduceCtorEq, ↓reduceIte, pickAV, lenAV, intAV, slcA, slcAV, iaddrAV, extAV, fldAV, eqCells, eqCell, contAV, appendAV, foldAV, maxI, minI, Option.some.injEq, catT]
    refine hK _ _ nofun ?_
    clear hK K
    refine CW.rI fun K hK => ?_
    simp (maxSteps := 4000000) only [amC, amR, evsA, evpA, elemsA, elemsP, sizedA, optA, refA, setO, Am.set, Am.get, AV.elem, AV.cells, AV.one, hsetL, hset, hget, loadAV, rowAt?, loadCells', faddrAV, binAV, fillA, storeAV, AV.putCells, AV.ref, List.foldl, List.all, List.map, List.set, List.take, List.drop, Option.getD, Option.map, if_true, if_false, Nat.reduceEqDiff, Nat.reduceAdd, Nat.reduceLT, Nat.reduceLeDiff, reduceCtorEq, ↓reduceIte, pickAV, lenAV, intAV, slcA, slcAV, iaddrAV, extAV, fldAV, eqCells, eqCell, contAV, appendAV, foldAV, maxI, minI, Option.some.injEq, catT, h1]
    refine hK _ _ nofun ?_
    clear hK K
    exact CW.ret (finK_pure (.inr rfl) (xs := [.bool (ok1 n)]) (by simp [resRV, Am.get, ok1, h1]) rfl rfl)

theorem c103 (n : Int) : CallsF Try.prog 103 [.int .i64 n] [] (.bool (ok1 n)) [] := by
  refine callsF_cw hm hf103 (by simp [cf103]) ?_
  simp only [cf103, argsAl]
  by_cases h1 : -100000 ≤ n
  · refine CW.rI fun K hK => ?_
    simp (maxSteps := 4000000) only [amC, amR, evsA, evpA, elemsA, elemsP, sizedA, optA, refA, setO, Am.set, Am.get, AV.elem, AV.cells, AV.one, hsetL, hset, hget, loadAV, rowAt?, loadCells', faddrAV, binAV, fillA, storeAV, AV.putCells, AV.ref, List.foldl, List.all, List.map, List.set, List.take, List.drop, Option.getD, Option.map, if_true, if_false, Nat.reduceEqDiff, Nat.reduceAdd, Nat.reduceLT, Nat.reduceLeDiff, reduceCtorEq, ↓reduceIte, pickAV, lenAV, intAV, slcA, slcAV, iaddrAV, extAV, fldAV, eqCells, eqCell, contAV, appendAV, foldAV, maxI, minI, Option.some.injEq, catT]
    refine hK _ _ nofun ?_
    clear hK K
    refine CW.rI fun K hK => ?_
    simp (maxSteps := 4000000) only [amC, amR, evsA, evpA, elemsA, elemsP, sizedA, optA, refA, setO, Am.set, Am.get, AV.elem, AV.cells, AV.one, hsetL, hset, hget, loadAV, rowAt?, loadCells', faddrAV, binAV, fillA, storeAV, AV.putCells, AV.ref, List.foldl, List.all, List.map, List.set, List.take, List.drop, Option.getD, Option.map, if_true, if_false, Nat.reduceEqDiff, Nat.reduceAdd, Nat.reduceLT, Nat.reduceLeDiff, reduceCtorEq, ↓reduceIte, pickAV, lenAV, intAV, slcA, slcAV, iaddrAV, extAV, fldAV, eqCells, eqCell, contAV, appendAV, foldAV, maxI, minI, Option.some.injEq, catT, h1]
    refine hK _ _ nofun ?_
    clear hK K
    exact CW.ret (finK_pure (.inr rfl) (xs := [.bool (ok1 n)]) (by simp [resRV, Am.get, ok1, h1]) rfl rfl)
  · refine CW.rI fun K hK => ?_
    simp (maxSteps := 4000000) only [amC, amR, evsA, evpA, elemsA, elemsP, sizedA, optA, refA, setO, Am.set, Am.get, AV.elem, AV.cells, AV.one, hsetL, hset, hget, loadAV, rowAt?, loadCells', faddrAV, binAV, fillA, storeAV, AV.putCells, AV.ref, List.foldl, List.all, List.map, List.set, List.take, List.drop, Option.getD, Option.map, if_true, if_false, Nat.reduceEqDiff, Nat.reduceAdd, Nat.reduceLT, Nat.reduceLeDiff, reduceCtorEq, ↓reduceIte, pickAV, lenAV, intAV, slcA, slcAV, iaddrAV, extAV, fldAV, eqCells, eqCell, contAV, appendAV, foldAV, maxI, minI, Option.some.injEq, catT]
    refine hK _ _ nofun ?_
    clear hK K
    refine CW.rI fun K hK => ?_
    simp (maxSteps := 4000000) only [amC, amR, evsA, evpA, elemsA, elemsP, sizedA, optA, refA, setO, Am.set, Am.get, AV.elem, AV.cells, AV.one, hsetL, hset, hget, loadAV, rowAt?, loadCells', faddrAV, binAV, fillA, storeAV, AV.putCells, AV.ref, List.foldl, List.all, List.map, List.set, List.take, List.drop, Option.getD, Option.map, if_true, if_false, Nat.reduceEqDiff, Nat.reduceAdd, Nat.reduceLT, Nat.reduceLeDiff, reduceCtorEq, ↓reduceIte, pickAV, lenAV, intAV, slcA, slcAV, iaddrAV, extAV, fldAV, eqCells, eqCell, contAV, appendAV, foldAV, maxI, minI, Option.some.injEq, catT, h1]
    refine hK _ _ nofun ?_
    clear hK K
    exact CW.ret (finK_pure (.inr rfl) (xs := [.bool (ok1 n)]) (by simp [resRV, Am.get, ok1, h1]) rfl rfl)

theorem c59 (p : Pt) : CallsF Try.prog 59 [pt p] [] (.bool (okP p)) [] := by
  refine callsF_cw hm hf59 (by simp [cf59]) ?_
  simp only [cf59, argsAl]
  unfold pt
  by_cases h1 : ok1 p.1 = true
  · refine CW.rI fun K hK => ?_
    simp (maxSteps := 4000000) only [amC, amR, evsA, evpA, elemsA, elemsP, sizedA, optA, refA, setO, Am.set, Am.get, AV.elem, AV.cells, AV.one, hsetL, hset, hget, loadAV, rowAt?, loadCells', faddrAV, binAV, fillA, storeAV, AV.putCells, AV.ref, List.foldl, List.all, List.map, List.set, List.take, List.drop, Option.getD, Option.map, if_true, if_false, Nat.reduceEqDiff, Nat.reduceAdd, Nat.reduceLT, Nat.reduceLeDiff, reduceCtorEq, ↓reduceIte, pickAV, lenAV, intAV, slcA, slcAV, iaddrAV, extAV, fldAV, eqCells, eqCell, contAV, appendAV, foldAV, maxI, minI, Option.some.injEq, catT]
    refine hK _ _ nofun ?_
    clear hK K
    refine CW.rI fun K hK => ?_
    simp (maxSteps := 4000000) only [amC, amR, evsA, evpA, elemsA, elemsP, sizedA, optA, refA, setO, Am.set, Am.get, AV.elem, AV.cells, AV.one, hsetL, hset, hget, loadAV, rowAt?, loadCells', faddrAV, binAV, fillA, storeAV, AV.putCells, AV.ref, List.foldl, List.all, List.map, List.set, List.take, List.drop, Option.getD, Option.map, if_true, if_false, Nat.reduceEqDiff, Nat.reduceAdd, Nat.reduceLT, Nat.reduceLeDiff, reduceCtorEq, ↓reduceIte, pickAV, lenAV, intAV, slcA, slcAV, iaddrAV, extAV, fldAV, eqCells, eqCell, contAV, appendAV, foldAV, maxI, minI, Option.some.injEq, catT]
    refine RunCall.view (fid := 91) (caps := []) rfl rfl rfl (c91 p.1) rfl ?_
    simp (maxSteps := 4000000) only [amC, amR, evsA, evpA, elemsA, elemsP, sizedA, optA, refA, setO, Am.set, Am.get, AV.elem, AV.cells, AV.one, hsetL, hset, hget, loadAV, rowAt?, loadCells', faddrAV, binAV, fillA, storeAV, AV.putCells, AV.ref, List.foldl, List.all, List.map, List.set, List.take, List.drop, Option.getD, Option.map, if_true, if_false, Nat.reduceEqDiff, Nat.reduceAdd, Nat.reduceLT, Nat.reduceLeDiff, reduceCtorEq, ↓reduceIte, pickAV, lenAV, intAV, slcA, slcAV, iaddrAV, extAV, fldAV, eqCells, eqCell, contAV, appendAV, foldAV, maxI, minI, Option.some.injEq, catT, h1]
    refine RunCall.view (fid := 91) (caps := []) rfl rfl rfl (c91 p.2) rfl ?_
    simp (maxSteps := 4000000) only [amC, amR, evsA, evpA, elemsA, elemsP, sizedA, optA, refA, setO, Am.set, Am.get, AV.elem, AV.cells, AV.one, hsetL, hset, hget, loadAV, rowAt?, loadCells', faddrAV, binAV, fillA, storeAV, AV.putCells, AV.ref, List.foldl, List.all, List.map, List.set, List.take, List.drop, Option.getD, Option.map, if_true, if_false, Nat.reduceEqDiff, Nat.reduceAdd, Nat.reduceLT, Nat.reduceLeDiff, reduceCtorEq, ↓reduceIte, pickAV, lenAV, intAV, slcA, slcAV, iaddrAV, extAV, fldAV, eqCells, eqCell, contAV, appendAV, foldAV, maxI, minI, Option.some.injEq, catT]
    refine hK _ _ nofun ?_
    clear hK K
    exact CW.ret (finK_pure (.inr rfl) (xs := [.bool (okP p)]) (by simp [resRV, Am.get, okP, h1]) rfl rfl)
  · refine CW.rI fun K hK => ?_
    simp (maxSteps := 4000000) only [amC, amR, evsA, evpA, elemsA, elemsP, sizedA, optA, refA, setO, Am.set, Am.get, AV.elem, AV.cells, AV.one, hsetL, hset, hget, loadAV, rowAt?, loadCells', faddrAV, binAV, fillA, storeAV, AV.putCells, AV.ref, List.foldl, List.all, List.map, List.set, List.take, List.drop, Option.getD, Option.map, if_true, if_false, Nat.reduceEqDiff, Nat.reduceAdd, Nat.reduceLT, Nat.reduceLeDiff, reduceCtorEq, ↓reduceIte, pickAV, lenAV, intAV, slcA, slcAV, iaddrAV, extAV, fldAV, eqCells, eqCell, contAV, appendAV, foldAV, maxI, minI, Option.some.injEq, catT]
    refine hK _ _ nofun ?_
    clear hK K
    refine CW.rI fun K hK => ?_
    simp (maxSteps := 4000000) only [amC, amR, evsA, evpA, elemsA, elemsP, sizedA, optA, refA, setO, Am.set, Am.get, AV.elem, AV.cells, AV.one, hsetL, hset, hget, loadAV, rowAt?, loadCells', faddrAV, binAV, fillA, storeAV, AV.putCells, AV.ref, List.foldl, List.all, List.map, List.set, List.take, List.drop, Option.getD, Option.map, if_true, if_false, Nat.reduceEqDiff, Nat.reduceAdd, Nat.reduceLT, Nat.reduceLeDiff, reduceCtorEq, ↓reduceIte, pickAV, lenAV, intAV, slcA, slcAV, iaddrAV, extAV, fldAV, eqCells, eqCell, contAV, appendAV, foldAV, maxI, minI, Option.some.injEq, catT]
    refine RunCall.view (fid := 91) (caps := []) rfl rfl rfl (c91 p.1) rfl ?_
    simp (maxSteps := 4000000) only [amC, amR, evsA, evpA, elemsA, elemsP, sizedA, optA, refA, setO, Am.set, Am.get, AV.elem, AV.cells, AV.one, hsetL, hset, hget, loadAV, rowAt?, loadCells', faddrAV, binAV, fillA, storeAV, AV.putCells, AV.ref, List.foldl, List.all, List.map, List.set, List.take, List.drop, Option.getD, Option.map, if_true, if_false, Nat.reduceEqDiff, Nat.reduceAdd, Nat.reduceLT, Nat.reduceLeDiff, reduceCtorEq, ↓reduceIte, pickAV, lenAV, intAV, slcA, slcAV, iaddrAV, extAV, fldAV, eqCells, eqCell, contAV, appendAV, foldAV, maxI, minI, Option.some.injEq, catT, h1]
    refine hK _ _ nofun ?_
    clear hK K
    exact CW.ret (finK_pure (.inr rfl) (xs := [.bool (okP p)]) (by simp [resRV, Am.get, okP, h1]) rfl rfl)

theorem c82 (p : Pt) : CallsF Try.prog 82 [pt p] [] (.bool (okP p)) [] := by
  refine callsF_cw hm hf82 (by simp [cf82]) ?_
  simp only [cf82, argsAl]
  unfold pt
  by_cases h1 : ok1 p.1 = true
  · refine CW.rI fun K hK => ?_
    simp (maxSteps := 4000000) only [amC, amR, evsA, evpA, elemsA, elemsP, sizedA, optA, refA, setO, Am.set, Am.get, AV.elem, AV.cells, AV.one, hsetL, hset, hget, loadAV, rowAt?, loadCells', faddrAV, binAV, fillA, storeAV, AV.putCells, AV.ref, List.foldl, List.all, List.map, List.set, List.take, List.drop, Option.getD, Option.map, if_true, if_false, Nat.reduceEqDiff, Nat.reduceAdd, Nat.reduceLT, Nat.reduceLeDiff, reduceCtorEq, ↓reduceIte, pickAV, lenAV, intAV, slcA, slcAV, iaddrAV, extAV, fldAV, eqCells, eqCell, contAV, appendAV, foldAV, maxI, minI, Option.some.injEq, catT]
    refine hK _ _ nofun ?_
    clear hK K
    refine CW.rI fun K hK => ?_
    simp (maxSteps := 4000000) only [amC, amR, evsA, evpA, elemsA, elemsP, sizedA, optA, refA, setO, Am.set, Am.get, AV.elem, AV.cells, AV.one, hsetL, hset, hget, loadAV, rowAt?, loadCells', faddrAV, binAV, fillA, storeAV, AV.putCells, AV.ref, List.foldl, List.all, List.map, List.set, List.take, List.drop, Option.getD, Option.map, if_true, if_false, Nat.reduceEqDiff, Nat.reduceAdd, Nat.reduceLT, Nat.reduceLeDiff, reduceCtorEq, ↓reduceIte, pickAV, lenAV, intAV, slcA, slcAV, iaddrAV, extAV, fldAV, eqCells, eqCell, contAV, appendAV, foldAV, maxI, minI, Option.some.injEq, catT]
    refine RunCall.view (fid := 103) (caps := []) rfl rfl rfl (c103 p.1) rfl ?_
    simp (maxSteps := 4000000) only [amC, amR, evsA, evpA, elemsA, elemsP, sizedA, optA, refA, setO, Am.set, Am.get, AV.elem, AV.cells, AV.one, hsetL, hset, hget, loadAV, rowAt?, loadCells', faddrAV, binAV, fillA, storeAV, AV.putCells, AV.ref, List.foldl, List.all, List.map, List.set, List.take, List.drop, Option.getD, Option.map, if_true, if_false, Nat.reduceEqDiff, Nat.reduceAdd, Nat.reduceLT, Nat.reduceLeDiff, reduceCtorEq, ↓reduceIte, pickAV, lenAV, intAV, slcA, slcAV, iaddrAV, extAV, fldAV, eqCells, eqCell, contAV, appendAV, foldAV, maxI, minI, Option.some.injEq, catT, h1]
    refine RunCall.view (fid := 103) (caps := []) rfl rfl rfl (c103 p.2) rfl ?_
    simp (maxSteps := 4000000) only [amC, amR, evsA, evpA, elemsA, elemsP, sizedA, optA, refA, setO, Am.set, Am.get, AV.elem, AV.cells, AV.one, hsetL, hset, hget, loadAV, rowAt?, loadCells', faddrAV, binAV, fillA, storeAV, AV.putCells, AV.ref, List.foldl, List.all, List.map, List.set, List.take, List.drop, Option.getD, Option.map, if_true, if_false, Nat.reduceEqDiff, Nat.reduceAdd, Nat.reduceLT, Nat.reduceLeDiff, reduceCtorEq, ↓reduceIte, pickAV, lenAV, intAV, slcA, slcAV, iaddrAV, extAV, fldAV, eqCells, eqCell, contAV, appendAV, foldAV, maxI, minI, Option.some.injEq, catT]
    refine hK _ _ nofun ?_
    clear hK K
    exact CW.ret (finK_pure (.inr rfl) (xs := [.bool (okP p)]) (by simp [resRV, Am.get, okP, h1]) rfl rfl)
  · refine CW.rI fun K hK => ?_
    simp (maxSteps := 4000000) only [amC, amR, evsA, evpA, elemsA, elemsP, sizedA, optA, refA, setO, Am.set, Am.get, AV.elem, AV.cells, AV.one, hsetL, hset, hget, loadAV, rowAt?, loadCells', faddrAV, binAV, fillA, storeAV, AV.putCells, AV.ref, List.foldl, List.all, List.map, List.set, List.take, List.drop, Option.getD, Option.map, if_true, if_false, Nat.reduceEqDiff, Nat.reduceAdd, Nat.reduceLT, Nat.reduceLeDiff, reduceCtorEq, ↓reduceIte, pickAV, lenAV, intAV, slcA, slcAV, iaddrAV, extAV, fldAV, eqCells, eqCell, contAV, appendAV, foldAV, maxI, minI, Option.some.injEq, catT]
    refine hK _ _ nofun ?_
    clear hK K
    refine CW.rI fun K hK => ?_
    simp (maxSteps := 4000000) only [amC, amR, evsA, evpA, elemsA, elemsP, sizedA, optA, refA, setO, Am.set, Am.get, AV.elem, AV.cells, AV.one, hsetL, hset, hget, loadAV, rowAt?, loadCells', faddrAV, binAV, fillA, storeAV, AV.putCells, AV.ref, List.foldl, List.all, List.map, List.set, List.take, List.drop, Option.getD, Option.map, if_true, if_false, Nat.reduceEqDiff, Nat.reduceAdd, Nat.reduceLT, Nat.reduceLeDiff, reduceCtorEq, ↓reduceIte, pickAV, lenAV, intAV, slcA, slcAV, iaddrAV, extAV, fldAV, eqCells, eqCell, contAV, appendAV, foldAV, maxI, minI, Option.some.injEq, catT]
    refine RunCall.view (fid := 103) (caps := []) rfl rfl rfl (c103 p.1) rfl ?_
    simp (maxSteps := 4000000) only [amC, amR, evsA, evpA, elemsA, elemsP, sizedA, optA, refA, setO, Am.set, Am.get, AV.elem, AV.cells, AV.one, hsetL, hset, hget, loadAV, rowAt?, loadCells', faddrAV, binAV, fillA, storeAV, AV.putCells, AV.ref, List.foldl, List.all, List.map, List.set, List.take, List.drop, Option.getD, Option.map, if_true, if_false, Nat.reduceEqDiff, Nat.reduceAdd, Nat.reduceLT, Nat.reduceLeDiff, reduceCtorEq, ↓reduceIte, pickAV, lenAV, intAV, slcA, slcAV, iaddrAV, extAV, fldAV, eqCells, eqCell, contAV, appendAV, foldAV, maxI, minI, Option.some.injEq, catT, h1]
    refine hK _ _ nofun ?_
    clear hK K
    exact CW.ret (finK_pure (.inr rfl) (xs := [.bool (okP p)]) (by simp [resRV, Am.get, okP, h1]) rfl rfl)

theorem c58 (l : List Pt) (hl : l.length < 4611686018427387904) : CallsF Try.prog 58 [pts l] [] (.int .i64 (chk l)) [] := by
  refine callsF_cw hm hf58 (by simp [cf58]) ?_
  simp only [cf58, argsAl]
  by_cases h1 : (64 : Int) < (l.length : Int)
  · have hc : chk l = 5 := by unfold chk; rw [if_pos (by omega)]
    refine CW.rI fun K hK => ?_
    simp (maxSteps := 4000000) only [amC, amR, evsA, evpA, elemsA, elemsP, sizedA, optA, refA, setO, Am.set, Am.get, AV.elem, AV.cells, AV.one, hsetL, hset, hget, loadAV, rowAt?, loadCells', faddrAV, binAV, fillA, storeAV, AV.putCells, AV.ref, List.foldl, List.all, List.map, List.set, List.take, List.drop, Option.getD, Option.map, if_true, if_false, Nat.reduceEqDiff, Nat.reduceAdd, Nat.reduceLT, Nat.reduceLeDiff, reduceCtorEq, ↓reduceIte, pickAV, lenAV, intAV, slcA, slcAV, iaddrAV, extAV, fldAV, eqCells, eqCell, contAV, appendAV, foldAV, maxI, minI, Option.some.injEq, catT]
    refine hK _ _ nofun ?_
    clear hK K
    refine CW.seq ?_
    unfold pts
    refine CW.rI fun K hK => ?_
    simp (maxSteps := 4000000) only [amC, amR, evsA, evpA, elemsA, elemsP, sizedA, optA, refA, setO, Am.set, Am.get, AV.elem, AV.cells, AV.one, hsetL, hset, hget, loadAV, rowAt?, loadCells', faddrAV, binAV, fillA, storeAV, AV.putCells, AV.ref, List.foldl, List.all, List.map, List.set, List.take, List.drop, Option.getD, Option.map, if_true, if_false, Nat.reduceEqDiff, Nat.reduceAdd, Nat.reduceLT, Nat.reduceLeDiff, reduceCtorEq, ↓reduceIte, pickAV, lenAV, intAV, slcA, slcAV, iaddrAV, extAV, fldAV, eqCells, eqCell, contAV, appendAV, foldAV, maxI, minI, Option.some.injEq, catT, List.length_map, h1]
    refine hK _ _ nofun ?_
    clear hK K
    refine CW.condT rfl ?_
    refine CW.rI fun K hK => ?_
    simp (maxSteps := 4000000) only [amC, amR, evsA, evpA, elemsA, elemsP, sizedA, optA, refA, setO, Am.set, Am.get, AV.elem, AV.cells, AV.one, hsetL, hset, hget, loadAV, rowAt?, loadCells', faddrAV, binAV, fillA, storeAV, AV.putCells, AV.ref, List.foldl, List.all, List.map, List.set, List.take, List.drop, Option.getD, Option.map, if_true, if_false, Nat.reduceEqDiff, Nat.reduceAdd, Nat.reduceLT, Nat.reduceLeDiff, reduceCtorEq, ↓reduceIte, pickAV, lenAV, intAV, slcA, slcAV, iaddrAV, extAV, fldAV, eqCells, eqCell, contAV, appendAV, foldAV, maxI, minI, Option.some.injEq, catT]
    refine hK _ _ nofun ?_
    clear hK K
    exact CW.ret (finK_pure (.inr rfl) (xs := [.int .i64 (chk l)]) (by simp [resRV, Am.get, hc]) rfl rfl)
  · have hlen : ¬ 64 < l.length := by omega
    refine CW.rI fun K hK => ?_
    simp (maxSteps := 4000000) only [amC, amR, evsA, evpA, elemsA, elemsP, sizedA, optA, refA, setO, Am.set, Am.get, AV.elem, AV.cells, AV.one, hsetL, hset, hget, loadAV, rowAt?, loadCells', faddrAV, binAV, fillA, storeAV, AV.putCells, AV.ref, List.foldl, List.all, List.map, List.set, List.take, List.drop, Option.getD, Option.map, if_true, if_false, Nat.reduceEqDiff, Nat.reduceAdd, Nat.reduceLT, Nat.reduceLeDiff, reduceCtorEq, ↓reduceIte, pickAV, lenAV, intAV, slcA, slcAV, iaddrAV, extAV, fldAV, eqCells, eqCell, contAV, appendAV, foldAV, maxI, minI, Option.some.injEq, catT]
    refine hK _ _ nofun ?_
    clear hK K
    refine CW.seq ?_
    unfold pts
    refine CW.rI fun K hK => ?_
    simp (maxSteps := 4000000) only [amC, amR, evsA, evpA, elemsA, elemsP, sizedA, optA, refA, setO, Am.set, Am.get, AV.elem, AV.cells, AV.one, hsetL, hset, hget, loadAV, rowAt?, loadCells', faddrAV, binAV, fillA, storeAV, AV.putCells, AV.ref, List.foldl, List.all, List.map, List.set, List.take, List.drop, Option.getD, Option.map, if_true, if_false, Nat.reduceEqDiff, Nat.reduceAdd, Nat.reduceLT, Nat.reduceLeDiff, reduceCtorEq, ↓reduceIte, pickAV, lenAV, intAV, slcA, slcAV, iaddrAV, extAV, fldAV, eqCells, eqCell, contAV, appendAV, foldAV, maxI, minI, Option.some.injEq, catT, List.length_map, h1]
    refine hK _ _ nofun ?_
    clear hK K
    refine CW.condF rfl (CW.skip ?_)
    show CW _ _ _ _ _ _
    refine CW.seq ?_
    refine CW.rI fun K hK => ?_
    simp (maxSteps := 4000000) only [amC, amR, evsA, evpA, elemsA, elemsP, sizedA, optA, refA, setO, Am.set, Am.get, AV.elem, AV.cells, AV.one, hsetL, hset, hget, loadAV, rowAt?, loadCells', faddrAV, binAV, fillA, storeAV, AV.putCells, AV.ref, List.foldl, List.all, List.map, List.set, List.take, List.drop, Option.getD, Option.map, if_true, if_false, Nat.reduceEqDiff, Nat.reduceAdd, Nat.reduceLT, Nat.reduceLeDiff, reduceCtorEq, ↓reduceIte, pickAV, lenAV, intAV, slcA, slcAV, iaddrAV, extAV, fldAV, eqCells, eqCell, contAV, appendAV, foldAV, maxI, minI, Option.some.injEq, catT]
    refine hK _ _ nofun ?_
    clear hK K
    refine CW.block ?_
    refine CW.loopF (fun i => l.length - i) (fun i => ⟨[(0, .sv false 2 (l.map pt)), (3, .int .i64 (i : Nat))], []⟩) (fun i => i ≤ l.length ∧ (l.take i).all okP = true) (fun i hi => ?_) 0 ⟨Nat.zero_le _, by simp⟩ _ (Fgt.mk' 0 (by simp) (by simp [keepB, Am.get, AV.lt, ltL_pt]) rfl trivial)
    obtain ⟨hi1, hi2⟩ := hi
    refine CW.seq ?_
    by_cases h2 : (i : Int) < (l.length : Int)
    · obtain ⟨p, hp⟩ : ∃ p, l[i]? = some p := ⟨l[i], List.getElem?_eq_getElem (by omega)⟩
      have hpt := get_pts hp
      refine CW.rI fun K hK => ?_
      simp (maxSteps := 4000000) only [amC, amR, evsA, evpA, elemsA, elemsP, sizedA, optA, refA, setO, Am.set, Am.get, AV.elem, AV.cells, AV.one, hsetL, hset, hget, loadAV, rowAt?, loadCells', faddrAV, binAV, fillA, storeAV, AV.putCells, AV.ref, List.foldl, List.all, List.map, List.set, List.take, List.drop, Option.getD, Option.map, if_true, if_false, Nat.reduceEqDiff, Nat.reduceAdd, Nat.reduceLT, Nat.reduceLeDiff, reduceCtorEq, ↓reduceIte, pickAV, lenAV, intAV, slcA, slcAV, iaddrAV, extAV, fldAV, eqCells, eqCell, contAV, appendAV, foldAV, maxI, minI, Option.some.injEq, catT, List.length_map, h2]
      refine hK _ _ nofun ?_
      clear hK K
      refine CW.condT rfl (CW.skip ?_)
      show CW _ _ _ _ _ _
      refine CW.seq ?_
      refine CW.block ?_
      by_cases h3 : okP p = true
      · refine CW.rI fun K hK => ?_
        simp (maxSteps := 4000000) only [amC, amR, evsA, evpA, elemsA, elemsP, sizedA, optA, refA, setO, Am.set, Am.get, AV.elem, AV.cells, AV.one, hsetL, hset, hget, loadAV, rowAt?, loadCells', faddrAV, binAV, fillA, storeAV, AV.putCells, AV.ref, List.foldl, List.all, List.map, List.set, List.take, List.drop, Option.getD, Option.map, if_true, if_false, Nat.reduceEqDiff, Nat.reduceAdd, Nat.reduceLT, Nat.reduceLeDiff, reduceCtorEq, ↓reduceIte, pickAV, lenAV, intAV, slcA, slcAV, iaddrAV, extAV, fldAV, eqCells, eqCell, contAV, appendAV, foldAV, maxI, minI, Option.some.injEq, catT, List.length_map, h2, hpt, Int.toNat_natCast, Int.natCast_nonneg, AV.cells, pt]
        refine RunCall.view (fid := 59) (caps := []) rfl rfl rfl (c59 p) rfl ?_
        simp (maxSteps := 4000000) only [amC, amR, evsA, evpA, elemsA, elemsP, sizedA, optA, refA, setO, Am.set, Am.get, AV.elem, AV.cells, AV.one, hsetL, hset, hget, loadAV, rowAt?, loadCells', faddrAV, binAV, fillA, storeAV, AV.putCells, AV.ref, List.foldl, List.all, List.map, List.set, List.take, List.drop, Option.getD, Option.map, if_true, if_false, Nat.reduceEqDiff, Nat.reduceAdd, Nat.reduceLT, Nat.reduceLeDiff, reduceCtorEq, ↓reduceIte, pickAV, lenAV, intAV, slcA, slcAV, iaddrAV, extAV, fldAV, eqCells, eqCell, contAV, appendAV, foldAV, maxI, minI, Option.some.injEq, catT, h3]
        refine hK _ _ nofun ?_
        clear hK K
        refine CW.condF rfl (CW.skip ?_)
        show CW _ _ _ _ _ _
        refine CW.rE fun K hK => ?_
        simp (maxSteps := 4000000) only [amC, amR, evsA, evpA, elemsA, elemsP, sizedA, optA, refA, setO, Am.set, Am.get, AV.elem, AV.cells, AV.one, hsetL, hset, hget, loadAV, rowAt?, loadCells', faddrAV, binAV, fillA, storeAV, AV.putCells, AV.ref, List.foldl, List.all, List.map, List.set, List.take, List.drop, Option.getD, Option.map, if_true, if_false, Nat.reduceEqDiff, Nat.reduceAdd, Nat.reduceLT, Nat.reduceLeDiff, reduceCtorEq, ↓reduceIte, pickAV, lenAV, intAV, slcA, slcAV, iaddrAV, extAV, fldAV, eqCells, eqCell, contAV, appendAV, foldAV, maxI, minI, Option.some.injEq, catT, wrap_nat i (by omega)]
        refine hK _ _ nofun ?_
        clear hK K
        refine ⟨i + 1, by omega, ⟨by omega, ?_⟩, Fgt.mk' 0 (by simp) (by simp [keepB, Am.get, AV.lt, ltL_pt]) rfl trivial⟩
        rw [List.take_add_one, hp]
        simp [hi2, h3]
      · refine CW.rI fun K hK => ?_
        simp (maxSteps := 4000000) only [amC, amR, evsA, evpA, elemsA, elemsP, sizedA, optA, refA, setO, Am.set, Am.get, AV.elem, AV.cells, AV.one, hsetL, hset, hget, loadAV, rowAt?, loadCells', faddrAV, binAV, fillA, storeAV, AV.putCells, AV.ref, List.foldl, List.all, List.map, List.set, List.take, List.drop, Option.getD, Option.map, if_true, if_false, Nat.reduceEqDiff, Nat.reduceAdd, Nat.reduceLT, Nat.reduceLeDiff, reduceCtorEq, ↓reduceIte, pickAV, lenAV, intAV, slcA, slcAV, iaddrAV, extAV, fldAV, eqCells, eqCell, contAV, appendAV, foldAV, maxI, minI, Option.some.injEq, catT, List.length_map, h2, hpt, Int.toNat_natCast, Int.natCast_nonneg, AV.cells, pt]
        refine RunCall.view (fid := 59) (caps := []) rfl rfl rfl (c59 p) rfl ?_
        simp (maxSteps := 4000000) only [amC, amR, evsA, evpA, elemsA, elemsP, sizedA, optA, refA, setO, Am.set, Am.get, AV.elem, AV.cells, AV.one, hsetL, hset, hget, loadAV, rowAt?, loadCells', faddrAV, binAV, fillA, storeAV, AV.putCells, AV.ref, List.foldl, List.all, List.map, List.set, List.take, List.drop, Option.getD, Option.map, if_true, if_false, Nat.reduceEqDiff, Nat.reduceAdd, Nat.reduceLT, Nat.reduceLeDiff, reduceCtorEq, ↓reduceIte, pickAV, lenAV, intAV, slcA, slcAV, iaddrAV, extAV, fldAV, eqCells, eqCell, contAV, appendAV, foldAV, maxI, minI, Option.some.injEq, catT, h3]
        refine hK _ _ nofun ?_
        clear hK K
        refine CW.condT rfl ?_
        refine CW.rI fun K hK => ?_
        simp (maxSteps := 4000000) only [amC, amR, evsA, evpA, elemsA, elemsP, sizedA, optA, refA, setO, Am.set, Am.get, AV.elem, AV.cells, AV.one, hsetL, hset, hget, loadAV, rowAt?, loadCells', faddrAV, binAV, fillA, storeAV, AV.putCells, AV.ref, List.foldl, List.all, List.map, List.set, List.take, List.drop, Option.getD, Option.map, if_true, if_false, Nat.reduceEqDiff, Nat.reduceAdd, Nat.reduceLT, Nat.reduceLeDiff, reduceCtorEq, ↓reduceIte, pickAV, lenAV, intAV, slcA, slcAV, iaddrAV, extAV, fldAV, eqCells, eqCell, contAV, appendAV, foldAV, maxI, minI, Option.some.injEq, catT]
        refine hK _ _ nofun ?_
        clear hK K
        have hc : chk l = 2 := by
          unfold chk
          rw [if_neg hlen, if_neg]
          intro hall
          exact h3 (List.all_eq_true.1 hall p (List.mem_of_getElem? hp))
        exact CW.ret (finK_pure (.inr rfl) (xs := [.int .i64 (chk l)]) (by simp [resRV, Am.get, hc]) rfl rfl)
    · refine CW.rI fun K hK => ?_
      simp (maxSteps := 4000000) only [amC, amR, evsA, evpA, elemsA, elemsP, sizedA, optA, refA, setO, Am.set, Am.get, AV.elem, AV.cells, AV.one, hsetL, hset, hget, loadAV, rowAt?, loadCells', faddrAV, binAV, fillA, storeAV, AV.putCells, AV.ref, List.foldl, List.all, List.map, List.set, List.take, List.drop, Option.getD, Option.map, if_true, if_false, Nat.reduceEqDiff, Nat.reduceAdd, Nat.reduceLT, Nat.reduceLeDiff, reduceCtorEq, ↓reduceIte, pickAV, lenAV, intAV, slcA, slcAV, iaddrAV, extAV, fldAV, eqCells, eqCell, contAV, appendAV, foldAV, maxI, minI, Option.some.injEq, catT, List.length_map, h2]
      refine hK _ _ nofun ?_
      clear hK K
      refine CW.condF rfl (CW.exit ?_)
      show CW _ _ _ _ _ _
      refine CW.rI fun K hK => ?_
      simp (maxSteps := 4000000) only [amC, amR, evsA, evpA, elemsA, elemsP, sizedA, optA, refA, setO, Am.set, Am.get, AV.elem, AV.cells, AV.one, hsetL, hset, hget, loadAV, rowAt?, loadCells', faddrAV, binAV, fillA, storeAV, AV.putCells, AV.ref, List.foldl, List.all, List.map, List.set, List.take, List.drop, Option.getD, Option.map, if_true, if_false, Nat.reduceEqDiff, Nat.reduceAdd, Nat.reduceLT, Nat.reduceLeDiff, reduceCtorEq, ↓reduceIte, pickAV, lenAV, intAV, slcA, slcAV, iaddrAV, extAV, fldAV, eqCells, eqCell, contAV, appendAV, foldAV, maxI, minI, Option.some.injEq, catT]
      refine hK _ _ nofun ?_
      clear hK K
      have hil : i = l.length := by omega
      subst hil
      have hc : chk l = 0 := by
        unfold chk
        rw [if_neg hlen, if_pos]
        simpa using hi2
      exact CW.ret (finK_pure (.inr rfl) (xs := [.int .i64 (chk l)]) (by simp [resRV, Am.get, hc]) rfl rfl)
end Go.Hull
