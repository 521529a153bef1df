/- Comparing points by their numbers: walks.
   Conditions: none. -/
import Derived.Test.YtkbpkbjfphdgeaaHW3
set_option linter.unusedSimpArgs false
set_option linter.unusedVariables false
namespace Go.Hull
open Go Go.Am Go.Proofs

def cmpI (x y : Int) : Int := if x < y then -1 else if y < x then 1 else 0
def cmpP (p q : Pt) : Int := if cmpI p.1 q.1 ≠ 0 then cmpI p.1 q.1 else cmpI p.2 q.2

theorem c115 (x : Int) : CallsF Try.prog 115 [.int .i64 x] [] (.bool false) [] := by
  have h : (x != x) = false := by simp
  refine callsF_cw hm hf115 (by simp [cf115]) ?_
  simp only [cf115, argsAl]
  refine CW.rI fun K hK => ?_
  simp (maxSteps := 4000000) only [amC, amR, evsA, evpA, elemsA, elemsP, sizedA, optA, refA, setO, Am.set, Am.get, AV.elem, AV.cells, AV.one, hsetL, hset, hget, loadAV, rowAt?, loadCells', faddrAV, binAV, fillA, storeAV, AV.putCells, AV.ref, List.foldl, List.all, List.map, List.set, List.take, List.drop, Option.getD, Option.map, if_true, if_false, Nat.reduceEqDiff, Nat.reduceAdd, Nat.reduceLT, Nat.reduceLeDiff, reduceCtorEq, ↓reduceIte, pickAV, lenAV, intAV, slcA, slcAV, iaddrAV, extAV, fldAV, eqCells, eqCell, contAV, appendAV, foldAV, maxI, minI, Option.some.injEq, catT]
  refine hK _ _ nofun ?_
  clear hK K
  refine CW.rI fun K hK => ?_
  simp (maxSteps := 4000000) only [amC, amR, evsA, evpA, elemsA, elemsP, sizedA, optA, refA, setO, Am.set, Am.get, AV.elem, AV.cells, AV.one, hsetL, hset, hget, loadAV, rowAt?, loadCells', faddrAV, binAV, fillA, storeAV, AV.putCells, AV.ref, List.foldl, List.all, List.map, List.set, List.take, List.drop, Option.getD, Option.map, if_true, if_false, Nat.reduceEqDiff, Nat.reduceAdd, Nat.reduceLT, Nat.reduceLeDiff, reduceCtorEq, ↓reduceIte, pickAV, lenAV, intAV, slcA, slcAV, iaddrAV, extAV, fldAV, eqCells, eqCell, contAV, appendAV, foldAV, maxI, minI, Option.some.injEq, catT, h]
  refine hK _ _ nofun ?_
  clear hK K
  exact CW.ret (finK_pure (.inr rfl) (xs := [.bool false]) (by simp [resRV, Am.get]) rfl rfl)

theorem c107 (x y : Int) : CallsF Try.prog 107 [.int .i64 x, .int .i64 y] [] (.int .i64 (cmpI x y)) [] := by
  refine callsF_cw hm hf107 (by simp [cf107]) ?_
  simp only [cf107, argsAl]
  refine CW.rI fun K hK => ?_
  simp (maxSteps := 4000000) only [amC, amR, evsA, evpA, elemsA, elemsP, sizedA, optA, refA, setO, Am.set, Am.get, AV.elem, AV.cells, AV.one, hsetL, hset, hget, loadAV, rowAt?, loadCells', faddrAV, binAV, fillA, storeAV, AV.putCells, AV.ref, List.foldl, List.all, List.map, List.set, List.take, List.drop, Option.getD, Option.map, if_true, if_false, Nat.reduceEqDiff, Nat.reduceAdd, Nat.reduceLT, Nat.reduceLeDiff, reduceCtorEq, ↓reduceIte, pickAV, lenAV, intAV, slcA, slcAV, iaddrAV, extAV, fldAV, eqCells, eqCell, contAV, appendAV, foldAV, maxI, minI, Option.some.injEq, catT]
  refine hK _ _ nofun ?_
  clear hK K
  refine CW.rI fun K hK => ?_
  simp (maxSteps := 4000000) only [amC, amR, evsA, evpA, elemsA, elemsP, sizedA, optA, refA, setO, Am.set, Am.get, AV.elem, AV.cells, AV.one, hsetL, hset, hget, loadAV, rowAt?, loadCells', faddrAV, binAV, fillA, storeAV, AV.putCells, AV.ref, List.foldl, List.all, List.map, List.set, List.take, List.drop, Option.getD, Option.map, if_true, if_false, Nat.reduceEqDiff, Nat.reduceAdd, Nat.reduceLT, Nat.reduceLeDiff, reduceCtorEq, ↓reduceIte, pickAV, lenAV, intAV, slcA, slcAV, iaddrAV, extAV, fldAV, eqCells, eqCell, contAV, appendAV, foldAV, maxI, minI, Option.some.injEq, catT]
  refine RunCall.view (fid := 115) (caps := []) rfl rfl rfl (c115 x) rfl ?_
  simp (maxSteps := 4000000) only [amC, amR, evsA, evpA, elemsA, elemsP, sizedA, optA, refA, setO, Am.set, Am.get, AV.elem, AV.cells, AV.one, hsetL, hset, hget, loadAV, rowAt?, loadCells', faddrAV, binAV, fillA, storeAV, AV.putCells, AV.ref, List.foldl, List.all, List.map, List.set, List.take, List.drop, Option.getD, Option.map, if_true, if_false, Nat.reduceEqDiff, Nat.reduceAdd, Nat.reduceLT, Nat.reduceLeDiff, reduceCtorEq, ↓reduceIte, pickAV, lenAV, intAV, slcA, slcAV, iaddrAV, extAV, fldAV, eqCells, eqCell, contAV, appendAV, foldAV, maxI, minI, Option.some.injEq, catT]
  refine hK _ _ nofun ?_
  clear hK K
  refine CW.rI fun K hK => ?_
  simp (maxSteps := 4000000) only [amC, amR, evsA, evpA, elemsA, elemsP, sizedA, optA, refA, setO, Am.set, Am.get, AV.elem, AV.cells, AV.one, hsetL, hset, hget, loadAV, rowAt?, loadCells', faddrAV, binAV, fillA, storeAV, AV.putCells, AV.ref, List.foldl, List.all, List.map, List.set, List.take, List.drop, Option.getD, Option.map, if_true, if_false, Nat.reduceEqDiff, Nat.reduceAdd, Nat.reduceLT, Nat.reduceLeDiff, reduceCtorEq, ↓reduceIte, pickAV, lenAV, intAV, slcA, slcAV, iaddrAV, extAV, fldAV, eqCells, eqCell, contAV, appendAV, foldAV, maxI, minI, Option.some.injEq, catT]
  refine RunCall.view (fid := 115) (caps := []) rfl rfl rfl (c115 y) rfl ?_
  simp (maxSteps := 4000000) only [amC, amR, evsA, evpA, elemsA, elemsP, sizedA, optA, refA, setO, Am.set, Am.get, AV.elem, AV.cells, AV.one, hsetL, hset, hget, loadAV, rowAt?, loadCells', faddrAV, binAV, fillA, storeAV, AV.putCells, AV.ref, List.foldl, List.all, List.map, List.set, List.take, List.drop, Option.getD, Option.map, if_true, if_false, Nat.reduceEqDiff, Nat.reduceAdd, Nat.reduceLT, Nat.reduceLeDiff, reduceCtorEq, ↓reduceIte, pickAV, lenAV, intAV, slcA, slcAV, iaddrAV, extAV, fldAV, eqCells, eqCell, contAV, appendAV, foldAV, maxI, minI, Option.some.injEq, catT]
  refine hK _ _ nofun ?_
  clear hK K
  refine CW.seq ?_
  refine CW.rI fun K hK => ?_
  simp (maxSteps := 4000000) only [amC, amR, evsA, evpA, elemsA, elemsP, sizedA, optA, refA, setO, Am.set, Am.get, AV.elem, AV.cells, AV.one, hsetL, hset, hget, loadAV, rowAt?, loadCells', faddrAV, binAV, fillA, storeAV, AV.putCells, AV.ref, List.foldl, List.all, List.map, List.set, List.take, List.drop, Option.getD, Option.map, if_true, if_false, Nat.reduceEqDiff, Nat.reduceAdd, Nat.reduceLT, Nat.reduceLeDiff, reduceCtorEq, ↓reduceIte, pickAV, lenAV, intAV, slcA, slcAV, iaddrAV, extAV, fldAV, eqCells, eqCell, contAV, appendAV, foldAV, maxI, minI, Option.some.injEq, catT]
  refine hK _ _ nofun ?_
  clear hK K
  refine CW.condF rfl (CW.skip ?_)
  show CW _ _ _ _ _ _
  refine CW.seq ?_
  refine CW.rI fun K hK => ?_
  simp (maxSteps := 4000000) only [amC, amR, evsA, evpA, elemsA, elemsP, sizedA, optA, refA, setO, Am.set, Am.get, AV.elem, AV.cells, AV.one, hsetL, hset, hget, loadAV, rowAt?, loadCells', faddrAV, binAV, fillA, storeAV, AV.putCells, AV.ref, List.foldl, List.all, List.map, List.set, List.take, List.drop, Option.getD, Option.map, if_true, if_false, Nat.reduceEqDiff, Nat.reduceAdd, Nat.reduceLT, Nat.reduceLeDiff, reduceCtorEq, ↓reduceIte, pickAV, lenAV, intAV, slcA, slcAV, iaddrAV, extAV, fldAV, eqCells, eqCell, contAV, appendAV, foldAV, maxI, minI, Option.some.injEq, catT]
  refine hK _ _ nofun ?_
  clear hK K
  refine CW.condF rfl (CW.skip ?_)
  show CW _ _ _ _ _ _
  refine CW.seq ?_
  by_cases h1 : x < y
  · refine CW.rI fun K hK => ?_
    simp (maxSteps := 4000000) only [amC, amR, evsA, evpA, elemsA, elemsP, sizedA, optA, refA, setO, Am.set, Am.get, AV.elem, AV.cells, AV.one, hsetL, hset, hget, loadAV, rowAt?, loadCells', faddrAV, binAV, fillA, storeAV, AV.putCells, AV.ref, List.foldl, List.all, List.map, List.set, List.take, List.drop, Option.getD, Option.map, if_true, if_false, Nat.reduceEqDiff, Nat.reduceAdd, Nat.reduceLT, Nat.reduceLeDiff, reduceCtorEq, ↓reduceIte, pickAV, lenAV, intAV, slcA, slcAV, iaddrAV, extAV, fldAV, eqCells, eqCell, contAV, appendAV, foldAV, maxI, minI, Option.some.injEq, catT, h1]
    refine hK _ _ nofun ?_
    clear hK K
    refine CW.condT rfl ?_
    refine CW.rI fun K hK => ?_
    simp (maxSteps := 4000000) only [amC, amR, evsA, evpA, elemsA, elemsP, sizedA, optA, refA, setO, Am.set, Am.get, AV.elem, AV.cells, AV.one, hsetL, hset, hget, loadAV, rowAt?, loadCells', faddrAV, binAV, fillA, storeAV, AV.putCells, AV.ref, List.foldl, List.all, List.map, List.set, List.take, List.drop, Option.getD, Option.map, if_true, if_false, Nat.reduceEqDiff, Nat.reduceAdd, Nat.reduceLT, Nat.reduceLeDiff, reduceCtorEq, ↓reduceIte, pickAV, lenAV, intAV, slcA, slcAV, iaddrAV, extAV, fldAV, eqCells, eqCell, contAV, appendAV, foldAV, maxI, minI, Option.some.injEq, catT]
    refine hK _ _ nofun ?_
    clear hK K
    exact CW.ret (finK_pure (.inr rfl) (xs := [.int .i64 (cmpI x y)]) (by simp [resRV, Am.get, cmpI, h1]) rfl rfl)
  · refine CW.rI fun K hK => ?_
    simp (maxSteps := 4000000) only [amC, amR, evsA, evpA, elemsA, elemsP, sizedA, optA, refA, setO, Am.set, Am.get, AV.elem, AV.cells, AV.one, hsetL, hset, hget, loadAV, rowAt?, loadCells', faddrAV, binAV, fillA, storeAV, AV.putCells, AV.ref, List.foldl, List.all, List.map, List.set, List.take, List.drop, Option.getD, Option.map, if_true, if_false, Nat.reduceEqDiff, Nat.reduceAdd, Nat.reduceLT, Nat.reduceLeDiff, reduceCtorEq, ↓reduceIte, pickAV, lenAV, intAV, slcA, slcAV, iaddrAV, extAV, fldAV, eqCells, eqCell, contAV, appendAV, foldAV, maxI, minI, Option.some.injEq, catT, h1]
    refine hK _ _ nofun ?_
    clear hK K
    refine CW.condF rfl (CW.skip ?_)
    show CW _ _ _ _ _ _
    refine CW.seq ?_
    by_cases h2 : y < x
    · refine CW.rI fun K hK => ?_
      simp (maxSteps := 4000000) only [amC, amR, evsA, evpA, elemsA, elemsP, sizedA, optA, refA, setO, Am.set, Am.get, AV.elem, AV.cells, AV.one, hsetL, hset, hget, loadAV, rowAt?, loadCells', faddrAV, binAV, fillA, storeAV, AV.putCells, AV.ref, List.foldl, List.all, List.map, List.set, List.take, List.drop, Option.getD, Option.map, if_true, if_false, Nat.reduceEqDiff, Nat.reduceAdd, Nat.reduceLT, Nat.reduceLeDiff, reduceCtorEq, ↓reduceIte, pickAV, lenAV, intAV, slcA, slcAV, iaddrAV, extAV, fldAV, eqCells, eqCell, contAV, appendAV, foldAV, maxI, minI, Option.some.injEq, catT, h2]
      refine hK _ _ nofun ?_
      clear hK K
      refine CW.condT rfl ?_
      refine CW.rI fun K hK => ?_
      simp (maxSteps := 4000000) only [amC, amR, evsA, evpA, elemsA, elemsP, sizedA, optA, refA, setO, Am.set, Am.get, AV.elem, AV.cells, AV.one, hsetL, hset, hget, loadAV, rowAt?, loadCells', faddrAV, binAV, fillA, storeAV, AV.putCells, AV.ref, List.foldl, List.all, List.map, List.set, List.take, List.drop, Option.getD, Option.map, if_true, if_false, Nat.reduceEqDiff, Nat.reduceAdd, Nat.reduceLT, Nat.reduceLeDiff, reduceCtorEq, ↓reduceIte, pickAV, lenAV, intAV, slcA, slcAV, iaddrAV, extAV, fldAV, eqCells, eqCell, contAV, appendAV, foldAV, maxI, minI, Option.some.injEq, catT]
      refine hK _ _ nofun ?_
      clear hK K
      exact CW.ret (finK_pure (.inr rfl) (xs := [.int .i64 (cmpI x y)]) (by simp [resRV, Am.get, cmpI, h1, h2]) rfl rfl)
    · refine CW.rI fun K hK => ?_
      simp (maxSteps := 4000000) only [amC, amR, evsA, evpA, elemsA, elemsP, sizedA, optA, refA, setO, Am.set, Am.get, AV.elem, AV.cells, AV.one, hsetL, hset, hget, loadAV, rowAt?, loadCells', faddrAV, binAV, fillA, storeAV, AV.putCells, AV.ref, List.foldl, List.all, List.map, List.set, List.take, List.drop, Option.getD, Option.map, if_true, if_false, Nat.reduceEqDiff, Nat.reduceAdd, Nat.reduceLT, Nat.reduceLeDiff, reduceCtorEq, ↓reduceIte, pickAV, lenAV, intAV, slcA, slcAV, iaddrAV, extAV, fldAV, eqCells, eqCell, contAV, appendAV, foldAV, maxI, minI, Option.some.injEq, catT, h2]
      refine hK _ _ nofun ?_
      clear hK K
      refine CW.condF rfl (CW.skip ?_)
      show CW _ _ _ _ _ _
      refine CW.rI fun K hK => ?_
      simp (maxSteps := 4000000) only [amC, amR, evsA, evpA, elemsA, elemsP, sizedA, optA, refA, setO, Am.set, Am.get, AV.elem, AV.cells, AV.one, hsetL, hset, hget, loadAV, rowAt?, loadCells', faddrAV, binAV, fillA, storeAV, AV.putCells, AV.ref, List.foldl, List.all, List.map, List.set, List.take, List.drop, Option.getD, Option.map, if_true, if_false, Nat.reduceEqDiff, Nat.reduceAdd, Nat.reduceLT, Nat.reduceLeDiff, reduceCtorEq, ↓reduceIte, pickAV, lenAV, intAV, slcA, slcAV, iaddrAV, extAV, fldAV, eqCells, eqCell, contAV, appendAV, foldAV, maxI, minI, Option.some.injEq, catT]
      refine hK _ _ nofun ?_
      clear hK K
      exact CW.ret (finK_pure (.inr rfl) (xs := [.int .i64 (cmpI x y)]) (by simp [resRV, Am.get, cmpI, h1, h2]) rfl rfl)

theorem c106 (x y : Int) : CallsF Try.prog 106 [.sv false 1 [.int .i64 x, .int .i64 y]] [] (.int .i64 (if x ≠ 0 then x else y)) [] := by
  refine callsF_cw hm hf106 (by simp [cf106]) ?_
  simp only [cf106, argsAl]
  refine CW.rI fun K hK => ?_
  simp (maxSteps := 4000000) only [amC, amR, evsA, evpA, elemsA, elemsP, sizedA, optA, refA, setO, Am.set, Am.get, AV.elem, AV.cells, AV.one, hsetL, hset, hget, loadAV, rowAt?, loadCells', faddrAV, binAV, fillA, storeAV, AV.putCells, AV.ref, List.foldl, List.all, List.map, List.set, List.take, List.drop, Option.getD, Option.map, if_true, if_false, Nat.reduceEqDiff, Nat.reduceAdd, Nat.reduceLT, Nat.reduceLeDiff, reduceCtorEq, ↓reduceIte, pickAV, lenAV, intAV, slcA, slcAV, iaddrAV, extAV, fldAV, eqCells, eqCell, contAV, appendAV, foldAV, maxI, minI, Option.some.injEq, catT]
  refine hK _ _ nofun ?_
  clear hK K
  refine CW.rI fun K hK => ?_
  simp (maxSteps := 4000000) only [amC, amR, evsA, evpA, elemsA, elemsP, sizedA, optA, refA, setO, Am.set, Am.get, AV.elem, AV.cells, AV.one, hsetL, hset, hget, loadAV, rowAt?, loadCells', faddrAV, binAV, fillA, storeAV, AV.putCells, AV.ref, List.foldl, List.all, List.map, List.set, List.take, List.drop, Option.getD, Option.map, if_true, if_false, Nat.reduceEqDiff, Nat.reduceAdd, Nat.reduceLT, Nat.reduceLeDiff, reduceCtorEq, ↓reduceIte, pickAV, lenAV, intAV, slcA, slcAV, iaddrAV, extAV, fldAV, eqCells, eqCell, contAV, appendAV, foldAV, maxI, minI, Option.some.injEq, catT]
  refine hK _ _ nofun ?_
  clear hK K
  refine CW.seq ?_
  refine CW.rI fun K hK => ?_
  simp (maxSteps := 4000000) only [amC, amR, evsA, evpA, elemsA, elemsP, sizedA, optA, refA, setO, Am.set, Am.get, AV.elem, AV.cells, AV.one, hsetL, hset, hget, loadAV, rowAt?, loadCells', faddrAV, binAV, fillA, storeAV, AV.putCells, AV.ref, List.foldl, List.all, List.map, List.set, List.take, List.drop, Option.getD, Option.map, if_true, if_false, Nat.reduceEqDiff, Nat.reduceAdd, Nat.reduceLT, Nat.reduceLeDiff, reduceCtorEq, ↓reduceIte, pickAV, lenAV, intAV, slcA, slcAV, iaddrAV, extAV, fldAV, eqCells, eqCell, contAV, appendAV, foldAV, maxI, minI, Option.some.injEq, catT]
  refine hK _ _ nofun ?_
  clear hK K
  refine CW.block ?_
  refine CW.loopF (fun i => 2 - i) (fun i => ⟨[(0, .sv false 1 [.int .i64 x, .int .i64 y]), (3, .int .i64 0), (6, .sv false 1 [.int .i64 x, .int .i64 y]), (7, .int .i64 2), (8, .int .i64 (i : Nat))], []⟩) (fun i => i ≤ 2 ∧ (0 < i → x = 0) ∧ (1 < i → y = 0)) (fun i hi => ?_) 0 ⟨by omega, by omega, by omega⟩ _ (Fgt.mk' 0 (by simp) (by simp [keepB, Am.get, AV.lt, ltL]) rfl trivial)
  obtain ⟨hi1, hx, hy⟩ := hi
  have hi3 : i = 0 ∨ i = 1 ∨ i = 2 := by omega
  rcases hi3 with rfl | rfl | rfl
  · refine CW.rI fun K hK => ?_
    simp (maxSteps := 4000000) only [amC, amR, evsA, evpA, elemsA, elemsP, sizedA, optA, refA, setO, Am.set, Am.get, AV.elem, AV.cells, AV.one, hsetL, hset, hget, loadAV, rowAt?, loadCells', faddrAV, binAV, fillA, storeAV, AV.putCells, AV.ref, List.foldl, List.all, List.map, List.set, List.take, List.drop, Option.getD, Option.map, if_true, if_false, Nat.reduceEqDiff, Nat.reduceAdd, Nat.reduceLT, Nat.reduceLeDiff, reduceCtorEq, ↓reduceIte, pickAV, lenAV, intAV, slcA, slcAV, iaddrAV, extAV, fldAV, eqCells, eqCell, contAV, appendAV, foldAV, maxI, minI, Option.some.injEq, catT, show ((0 : Nat) : Int) < 2 from by decide]
    refine hK _ _ nofun ?_
    clear hK K
    refine CW.seq ?_
    refine CW.condT rfl (CW.skip ?_)
    show CW _ _ _ _ _ _
    refine CW.seq ?_
    refine CW.block ?_
    refine CW.rI fun K hK => ?_
    simp (maxSteps := 4000000) only [amC, amR, evsA, evpA, elemsA, elemsP, sizedA, optA, refA, setO, Am.set, Am.get, AV.elem, AV.cells, AV.one, hsetL, hset, hget, loadAV, rowAt?, loadCells', faddrAV, binAV, fillA, storeAV, AV.putCells, AV.ref, List.foldl, List.all, List.map, List.set, List.take, List.drop, Option.getD, Option.map, if_true, if_false, Nat.reduceEqDiff, Nat.reduceAdd, Nat.reduceLT, Nat.reduceLeDiff, reduceCtorEq, ↓reduceIte, pickAV, lenAV, intAV, slcA, slcAV, iaddrAV, extAV, fldAV, eqCells, eqCell, contAV, appendAV, foldAV, maxI, minI, Option.some.injEq, catT, show ((0 : Nat) : Int) = 0 from rfl, show (0 : Int) < 2 from by decide, Int.toNat_zero, Int.le_refl, show (0 : Int) < ((2 : Nat) : Int) from by decide, AV.cells]
    refine hK _ _ nofun ?_
    clear hK K
    by_cases h : x = 0
    · have hb : (x != 0) = false := by simp [h]
      refine CW.rI fun K hK => ?_
      simp (maxSteps := 4000000) only [amC, amR, evsA, evpA, elemsA, elemsP, sizedA, optA, refA, setO, Am.set, Am.get, AV.elem, AV.cells, AV.one, hsetL, hset, hget, loadAV, rowAt?, loadCells', faddrAV, binAV, fillA, storeAV, AV.putCells, AV.ref, List.foldl, List.all, List.map, List.set, List.take, List.drop, Option.getD, Option.map, if_true, if_false, Nat.reduceEqDiff, Nat.reduceAdd, Nat.reduceLT, Nat.reduceLeDiff, reduceCtorEq, ↓reduceIte, pickAV, lenAV, intAV, slcA, slcAV, iaddrAV, extAV, fldAV, eqCells, eqCell, contAV, appendAV, foldAV, maxI, minI, Option.some.injEq, catT, hb]
      refine hK _ _ nofun ?_
      clear hK K
      refine CW.condF rfl (CW.skip ?_)
      show CW _ _ _ _ _ _
      refine CW.rE fun K hK => ?_
      simp (maxSteps := 4000000) only [amC, amR, evsA, evpA, elemsA, elemsP, sizedA, optA, refA, setO, Am.set, Am.get, AV.elem, AV.cells, AV.one, hsetL, hset, hget, loadAV, rowAt?, loadCells', faddrAV, binAV, fillA, storeAV, AV.putCells, AV.ref, List.foldl, List.all, List.map, List.set, List.take, List.drop, Option.getD, Option.map, if_true, if_false, Nat.reduceEqDiff, Nat.reduceAdd, Nat.reduceLT, Nat.reduceLeDiff, reduceCtorEq, ↓reduceIte, pickAV, lenAV, intAV, slcA, slcAV, iaddrAV, extAV, fldAV, eqCells, eqCell, contAV, appendAV, foldAV, maxI, minI, Option.some.injEq, catT, show IntKind.i64.wrap ((0 : Int) + 1) = ((1 : Nat) : Int) from by decide]
      refine hK _ _ nofun ?_
      clear hK K
      exact ⟨1, by omega, ⟨by omega, fun _ => h, by omega⟩, Fgt.mk' 0 (by simp) (by simp [keepB, Am.get, AV.lt, ltL]) rfl trivial⟩
    · have hb : (x != 0) = true := by simp [h]
      refine CW.rI fun K hK => ?_
      simp (maxSteps := 4000000) only [amC, amR, evsA, evpA, elemsA, elemsP, sizedA, optA, refA, setO, Am.set, Am.get, AV.elem, AV.cells, AV.one, hsetL, hset, hget, loadAV, rowAt?, loadCells', faddrAV, binAV, fillA, storeAV, AV.putCells, AV.ref, List.foldl, List.all, List.map, List.set, List.take, List.drop, Option.getD, Option.map, if_true, if_false, Nat.reduceEqDiff, Nat.reduceAdd, Nat.reduceLT, Nat.reduceLeDiff, reduceCtorEq, ↓reduceIte, pickAV, lenAV, intAV, slcA, slcAV, iaddrAV, extAV, fldAV, eqCells, eqCell, contAV, appendAV, foldAV, maxI, minI, Option.some.injEq, catT, hb]
      refine hK _ _ nofun ?_
      clear hK K
      refine CW.condT rfl ?_
      refine CW.rI fun K hK => ?_
      simp (maxSteps := 4000000) only [amC, amR, evsA, evpA, elemsA, elemsP, sizedA, optA, refA, setO, Am.set, Am.get, AV.elem, AV.cells, AV.one, hsetL, hset, hget, loadAV, rowAt?, loadCells', faddrAV, binAV, fillA, storeAV, AV.putCells, AV.ref, List.foldl, List.all, List.map, List.set, List.take, List.drop, Option.getD, Option.map, if_true, if_false, Nat.reduceEqDiff, Nat.reduceAdd, Nat.reduceLT, Nat.reduceLeDiff, reduceCtorEq, ↓reduceIte, pickAV, lenAV, intAV, slcA, slcAV, iaddrAV, extAV, fldAV, eqCells, eqCell, contAV, appendAV, foldAV, maxI, minI, Option.some.injEq, catT]
      refine hK _ _ nofun ?_
      clear hK K
      exact CW.ret (finK_pure (.inr rfl) (xs := [.int .i64 (if x ≠ 0 then x else y)]) (by simp [resRV, Am.get, h]) rfl rfl)
  · refine CW.rI fun K hK => ?_
    simp (maxSteps := 4000000) only [amC, amR, evsA, evpA, elemsA, elemsP, sizedA, optA, refA, setO, Am.set, Am.get, AV.elem, AV.cells, AV.one, hsetL, hset, hget, loadAV, rowAt?, loadCells', faddrAV, binAV, fillA, storeAV, AV.putCells, AV.ref, List.foldl, List.all, List.map, List.set, List.take, List.drop, Option.getD, Option.map, if_true, if_false, Nat.reduceEqDiff, Nat.reduceAdd, Nat.reduceLT, Nat.reduceLeDiff, reduceCtorEq, ↓reduceIte, pickAV, lenAV, intAV, slcA, slcAV, iaddrAV, extAV, fldAV, eqCells, eqCell, contAV, appendAV, foldAV, maxI, minI, Option.some.injEq, catT, show ((1 : Nat) : Int) < 2 from by decide]
    refine hK _ _ nofun ?_
    clear hK K
    refine CW.seq ?_
    refine CW.condT rfl (CW.skip ?_)
    show CW _ _ _ _ _ _
    refine CW.seq ?_
    refine CW.block ?_
    refine CW.rI fun K hK => ?_
    simp (maxSteps := 4000000) only [amC, amR, evsA, evpA, elemsA, elemsP, sizedA, optA, refA, setO, Am.set, Am.get, AV.elem, AV.cells, AV.one, hsetL, hset, hget, loadAV, rowAt?, loadCells', faddrAV, binAV, fillA, storeAV, AV.putCells, AV.ref, List.foldl, List.all, List.map, List.set, List.take, List.drop, Option.getD, Option.map, if_true, if_false, Nat.reduceEqDiff, Nat.reduceAdd, Nat.reduceLT, Nat.reduceLeDiff, reduceCtorEq, ↓reduceIte, pickAV, lenAV, intAV, slcA, slcAV, iaddrAV, extAV, fldAV, eqCells, eqCell, contAV, appendAV, foldAV, maxI, minI, Option.some.injEq, catT, show (0 : Int) ≤ ((1 : Nat) : Int) from by decide, show ((1 : Nat) : Int) < ((2 : Nat) : Int) from by decide, Int.toNat_natCast, AV.cells]
    refine hK _ _ nofun ?_
    clear hK K
    by_cases h : y = 0
    · have hb : (y != 0) = false := by simp [h]
      refine CW.rI fun K hK => ?_
      simp (maxSteps := 4000000) only [amC, amR, evsA, evpA, elemsA, elemsP, sizedA, optA, refA, setO, Am.set, Am.get, AV.elem, AV.cells, AV.one, hsetL, hset, hget, loadAV, rowAt?, loadCells', faddrAV, binAV, fillA, storeAV, AV.putCells, AV.ref, List.foldl, List.all, List.map, List.set, List.take, List.drop, Option.getD, Option.map, if_true, if_false, Nat.reduceEqDiff, Nat.reduceAdd, Nat.reduceLT, Nat.reduceLeDiff, reduceCtorEq, ↓reduceIte, pickAV, lenAV, intAV, slcA, slcAV, iaddrAV, extAV, fldAV, eqCells, eqCell, contAV, appendAV, foldAV, maxI, minI, Option.some.injEq, catT, hb]
      refine hK _ _ nofun ?_
      clear hK K
      refine CW.condF rfl (CW.skip ?_)
      show CW _ _ _ _ _ _
      refine CW.rE fun K hK => ?_
      simp (maxSteps := 4000000) only [amC, amR, evsA, evpA, elemsA, elemsP, sizedA, optA, refA, setO, Am.set, Am.get, AV.elem, AV.cells, AV.one, hsetL, hset, hget, loadAV, rowAt?, loadCells', faddrAV, binAV, fillA, storeAV, AV.putCells, AV.ref, List.foldl, List.all, List.map, List.set, List.take, List.drop, Option.getD, Option.map, if_true, if_false, Nat.reduceEqDiff, Nat.reduceAdd, Nat.reduceLT, Nat.reduceLeDiff, reduceCtorEq, ↓reduceIte, pickAV, lenAV, intAV, slcA, slcAV, iaddrAV, extAV, fldAV, eqCells, eqCell, contAV, appendAV, foldAV, maxI, minI, Option.some.injEq, catT, show IntKind.i64.wrap (((1 : Nat) : Int) + 1) = ((2 : Nat) : Int) from by decide]
      refine hK _ _ nofun ?_
      clear hK K
      exact ⟨2, by omega, ⟨by omega, fun _ => hx (by omega), fun _ => h⟩, Fgt.mk' 0 (by simp) (by simp [keepB, Am.get, AV.lt, ltL]) rfl trivial⟩
    · have hb : (y != 0) = true := by simp [h]
      have hx0 : x = 0 := hx (by omega)
      refine CW.rI fun K hK => ?_
      simp (maxSteps := 4000000) only [amC, amR, evsA, evpA, elemsA, elemsP, sizedA, optA, refA, setO, Am.set, Am.get, AV.elem, AV.cells, AV.one, hsetL, hset, hget, loadAV, rowAt?, loadCells', faddrAV, binAV, fillA, storeAV, AV.putCells, AV.ref, List.foldl, List.all, List.map, List.set, List.take, List.drop, Option.getD, Option.map, if_true, if_false, Nat.reduceEqDiff, Nat.reduceAdd, Nat.reduceLT, Nat.reduceLeDiff, reduceCtorEq, ↓reduceIte, pickAV, lenAV, intAV, slcA, slcAV, iaddrAV, extAV, fldAV, eqCells, eqCell, contAV, appendAV, foldAV, maxI, minI, Option.some.injEq, catT, hb]
      refine hK _ _ nofun ?_
      clear hK K
      refine CW.condT rfl ?_
      refine CW.rI fun K hK => ?_
      simp (maxSteps := 4000000) only [amC, amR, evsA, evpA, elemsA, elemsP, sizedA, optA, refA, setO, Am.set, Am.get, AV.elem, AV.cells, AV.one, hsetL, hset, hget, loadAV, rowAt?, loadCells', faddrAV, binAV, fillA, storeAV, AV.putCells, AV.ref, List.foldl, List.all, List.map, List.set, List.take, List.drop, Option.getD, Option.map, if_true, if_false, Nat.reduceEqDiff, Nat.reduceAdd, Nat.reduceLT, Nat.reduceLeDiff, reduceCtorEq, ↓reduceIte, pickAV, lenAV, intAV, slcA, slcAV, iaddrAV, extAV, fldAV, eqCells, eqCell, contAV, appendAV, foldAV, maxI, minI, Option.some.injEq, catT]
      refine hK _ _ nofun ?_
      clear hK K
      exact CW.ret (finK_pure (.inr rfl) (xs := [.int .i64 (if x ≠ 0 then x else y)]) (by simp [resRV, Am.get, hx0]) rfl rfl)
  · refine CW.rI fun K hK => ?_
    simp (maxSteps := 4000000) only [amC, amR, evsA, evpA, elemsA, elemsP, sizedA, optA, refA, setO, Am.set, Am.get, AV.elem, AV.cells, AV.one, hsetL, hset, hget, loadAV, rowAt?, loadCells', faddrAV, binAV, fillA, storeAV, AV.putCells, AV.ref, List.foldl, List.all, List.map, List.set, List.take, List.drop, Option.getD, Option.map, if_true, if_false, Nat.reduceEqDiff, Nat.reduceAdd, Nat.reduceLT, Nat.reduceLeDiff, reduceCtorEq, ↓reduceIte, pickAV, lenAV, intAV, slcA, slcAV, iaddrAV, extAV, fldAV, eqCells, eqCell, contAV, appendAV, foldAV, maxI, minI, Option.some.injEq, catT, show ¬ ((2 : Nat) : Int) < 2 from by decide]
    refine hK _ _ nofun ?_
    clear hK K
    refine CW.seq ?_
    refine CW.condF rfl (CW.exit ?_)
    show CW _ _ _ _ _ _
    refine CW.rI fun K hK => ?_
    simp (maxSteps := 4000000) only [amC, amR, evsA, evpA, elemsA, elemsP, sizedA, optA, refA, setO, Am.set, Am.get, AV.elem, AV.cells, AV.one, hsetL, hset, hget, loadAV, rowAt?, loadCells', faddrAV, binAV, fillA, storeAV, AV.putCells, AV.ref, List.foldl, List.all, List.map, List.set, List.take, List.drop, Option.getD, Option.map, if_true, if_false, Nat.reduceEqDiff, Nat.reduceAdd, Nat.reduceLT, Nat.reduceLeDiff, reduceCtorEq, ↓reduceIte, pickAV, lenAV, intAV, slcA, slcAV, iaddrAV, extAV, fldAV, eqCells, eqCell, contAV, appendAV, foldAV, maxI, minI, Option.some.injEq, catT]
    refine hK _ _ nofun ?_
    clear hK K
    have hx0 : x = 0 := hx (by omega)
    have hy0 : y = 0 := hy (by omega)
    exact CW.ret (finK_pure (.inr rfl) (xs := [.int .i64 (if x ≠ 0 then x else y)]) (by simp [resRV, Am.get, hx0, hy0]) rfl rfl)

theorem c105 {l : List Pt} {i k : Nat} {p q : Pt} (hi : l[i]? = some p) (hk : l[k]? = some q) : CallsF Try.prog 105 [.int .i64 (i : Int), .int .i64 (k : Int), .rp true [pts l]] [] (.int .i64 (cmpP p q)) [] := by
  have hil : (i : Int) < (l.length : Int) := by have := (List.getElem?_eq_some_iff.1 hi).1; omega
  have hkl : (k : Int) < (l.length : Int) := by have := (List.getElem?_eq_some_iff.1 hk).1; omega
  have hpi := get_pts hi
  have hpk := get_pts hk
  refine callsF_cw hm hf105 (by simp [cf105]) ?_
  simp only [cf105, argsAl]
  refine CW.rI fun K hK => ?_
  simp (maxSteps := 4000000) only [amC, amR, evsA, evpA, elemsA, elemsP, sizedA, optA, refA, setO, Am.set, Am.get, AV.elem, AV.cells, AV.one, hsetL, hset, hget, loadAV, rowAt?, loadCells', faddrAV, binAV, fillA, storeAV, AV.putCells, AV.ref, List.foldl, List.all, List.map, List.set, List.take, List.drop, Option.getD, Option.map, if_true, if_false, Nat.reduceEqDiff, Nat.reduceAdd, Nat.reduceLT, Nat.reduceLeDiff, reduceCtorEq, ↓reduceIte, pickAV, lenAV, intAV, slcA, slcAV, iaddrAV, extAV, fldAV, eqCells, eqCell, contAV, appendAV, foldAV, maxI, minI, Option.some.injEq, catT]
  refine hK _ _ nofun ?_
  clear hK K
  unfold pts
  refine CW.rI fun K hK => ?_
  simp (maxSteps := 4000000) only [amC, amR, evsA, evpA, elemsA, elemsP, sizedA, optA, refA, setO, Am.set, Am.get, AV.elem, AV.cells, AV.one, hsetL, hset, hget, loadAV, rowAt?, loadCells', faddrAV, binAV, fillA, storeAV, AV.putCells, AV.ref, List.foldl, List.all, List.map, List.set, List.take, List.drop, Option.getD, Option.map, if_true, if_false, Nat.reduceEqDiff, Nat.reduceAdd, Nat.reduceLT, Nat.reduceLeDiff, reduceCtorEq, ↓reduceIte, pickAV, lenAV, intAV, slcA, slcAV, iaddrAV, extAV, fldAV, eqCells, eqCell, contAV, appendAV, foldAV, maxI, minI, Option.some.injEq, catT, List.length_map, hil, hkl, hpi, hpk, Int.toNat_natCast, Int.natCast_nonneg, AV.cells, pt]
  refine RunCall.view (fid := 107) (caps := []) rfl rfl rfl (c107 p.1 q.1) rfl ?_
  simp (maxSteps := 4000000) only [amC, amR, evsA, evpA, elemsA, elemsP, sizedA, optA, refA, setO, Am.set, Am.get, AV.elem, AV.cells, AV.one, hsetL, hset, hget, loadAV, rowAt?, loadCells', faddrAV, binAV, fillA, storeAV, AV.putCells, AV.ref, List.foldl, List.all, List.map, List.set, List.take, List.drop, Option.getD, Option.map, if_true, if_false, Nat.reduceEqDiff, Nat.reduceAdd, Nat.reduceLT, Nat.reduceLeDiff, reduceCtorEq, ↓reduceIte, pickAV, lenAV, intAV, slcA, slcAV, iaddrAV, extAV, fldAV, eqCells, eqCell, contAV, appendAV, foldAV, maxI, minI, Option.some.injEq, catT, List.length_map, hil, hkl, hpi, hpk, Int.toNat_natCast, Int.natCast_nonneg, AV.cells, pt]
  refine RunCall.view (fid := 107) (caps := []) rfl rfl rfl (c107 p.2 q.2) rfl ?_
  simp (maxSteps := 4000000) only [amC, amR, evsA, evpA, elemsA, elemsP, sizedA, optA, refA, setO, Am.set, Am.get, AV.elem, AV.cells, AV.one, hsetL, hset, hget, loadAV, rowAt?, loadCells', faddrAV, binAV, fillA, storeAV, AV.putCells, AV.ref, List.foldl, List.all, List.map, List.set, List.take, List.drop, Option.getD, Option.map, if_true, if_false, Nat.reduceEqDiff, Nat.reduceAdd, Nat.reduceLT, Nat.reduceLeDiff, reduceCtorEq, ↓reduceIte, pickAV, lenAV, intAV, slcA, slcAV, iaddrAV, extAV, fldAV, eqCells, eqCell, contAV, appendAV, foldAV, maxI, minI, Option.some.injEq, catT, beq_self_eq_true, Bool.and_self]
  refine RunCall.view (fid := 106) (caps := []) rfl rfl rfl (c106 (cmpI p.1 q.1) (cmpI p.2 q.2)) rfl ?_
  simp (maxSteps := 4000000) only [amC, amR, evsA, evpA, elemsA, elemsP, sizedA, optA, refA, setO, Am.set, Am.get, AV.elem, AV.cells, AV.one, hsetL, hset, hget, loadAV, rowAt?, loadCells', faddrAV, binAV, fillA, storeAV, AV.putCells, AV.ref, List.foldl, List.all, List.map, List.set, List.take, List.drop, Option.getD, Option.map, if_true, if_false, Nat.reduceEqDiff, Nat.reduceAdd, Nat.reduceLT, Nat.reduceLeDiff, reduceCtorEq, ↓reduceIte, pickAV, lenAV, intAV, slcA, slcAV, iaddrAV, extAV, fldAV, eqCells, eqCell, contAV, appendAV, foldAV, maxI, minI, Option.some.injEq, catT]
  refine hK _ _ (fun _ => rfl) ?_
  clear hK K
  exact CW.ret (finK_pure (.inr rfl) (xs := [.int .i64 (cmpP p q)]) (by simp [resRV, Am.get, cmpP]) rfl rfl)
end Go.Hull
