/- Lists of points in range: walks.
   Conditions: none. -/
import Derived.Test.YtkbpkbjfphdgeaaRows
import Derived.WalkKit
import Derived.ProofKit
import Derived.OpenShut
import Derived.ShutString
import Derived.ChangeOld
import Derived.Below
import Derived.SizedLaws
import Derived.ChangeSlices
import Derived.KernelRfl
import Derived.Test.YtkbpkbjfphdgeaaPart8
section
set_option linter.unusedSimpArgs false
set_option linter.unusedVariables false
namespace Go.Hull
open Go Go.Am Go.Proofs

theorem c102 (l : List Pt) (hl : l.length < 4611686018427387904) : CallsF Try.prog 102 [.clo 82 [], pts l] [] (.int .i64 (if l.all okP = true then 0 else 2)) [] := by
  refine callsF_cw hm hf102 (by simp [cf102]) ?_
  simp only [cf102, argsAl]
  unfold pts
  refine CW.rI fun K hK => ?_
  simp (maxSteps := 4000000) only [amC, amR, evsA, evpA, elemsA, elemsP, sizedA, optA, refA, setO, Am.set, Am.get, AV.elem, AV.cells, AV.one, hsetL, hset, hget, loadAV, rowAt?, loadCells', faddrAV, binAV, fillA, storeAV, AV.putCells, AV.ref, List.foldl, List.all, List.map, List.set, List.take, List.drop, Option.getD, Option.map, if_true, if_false, Nat.reduceEqDiff, Nat.reduceAdd, Nat.reduceLT, Nat.reduceLeDiff, reduceCtorEq, ↓reduceIte, pickAV, lenAV, intAV, slcA, slcAV, iaddrAV, extAV, fldAV, eqCells, eqCell, contAV, appendAV, foldAV, maxI, minI, Option.some.injEq, catT]
  refine hK _ _ nofun ?_
  clear hK K
  refine CW.seq ?_
  refine CW.rI fun K hK => ?_
  simp (maxSteps := 4000000) only [amC, amR, evsA, evpA, elemsA, elemsP, sizedA, optA, refA, setO, Am.set, Am.get, AV.elem, AV.cells, AV.one, hsetL, hset, hget, loadAV, rowAt?, loadCells', faddrAV, binAV, fillA, storeAV, AV.putCells, AV.ref, List.foldl, List.all, List.map, List.set, List.take, List.drop, Option.getD, Option.map, if_true, if_false, Nat.reduceEqDiff, Nat.reduceAdd, Nat.reduceLT, Nat.reduceLeDiff, reduceCtorEq, ↓reduceIte, pickAV, lenAV, intAV, slcA, slcAV, iaddrAV, extAV, fldAV, eqCells, eqCell, contAV, appendAV, foldAV, maxI, minI, Option.some.injEq, catT, List.length_map]
  refine hK _ _ nofun ?_
  clear hK K
  refine CW.block ?_
  refine CW.loopF (fun i => l.length - i) (fun i => ⟨[(0, .clo 82 []), (7, .sv false 2 (l.map pt)), (8, .int .i64 l.length), (9, .int .i64 (i : Nat))], []⟩) (fun i => i ≤ l.length ∧ (l.take i).all okP = true) (fun i hi => ?_) 0 ⟨Nat.zero_le _, by simp⟩ _ (Fgt.mk' 0 (by simp) (by simp [keepB, Am.get, AV.lt, ltL_pt, ltL]) rfl trivial)
  obtain ⟨hi1, hi2⟩ := hi
  by_cases h2 : (i : Int) < (l.length : Int)
  · obtain ⟨p, hp⟩ : ∃ p, l[i]? = some p := ⟨l[i], List.getElem?_eq_getElem (by omega)⟩
    have hpt := get_pts hp
    refine CW.rI fun K hK => ?_
    simp (maxSteps := 4000000) only [amC, amR, evsA, evpA, elemsA, elemsP, sizedA, optA, refA, setO, Am.set, Am.get, AV.elem, AV.cells, AV.one, hsetL, hset, hget, loadAV, rowAt?, loadCells', faddrAV, binAV, fillA, storeAV, AV.putCells, AV.ref, List.foldl, List.all, List.map, List.set, List.take, List.drop, Option.getD, Option.map, if_true, if_false, Nat.reduceEqDiff, Nat.reduceAdd, Nat.reduceLT, Nat.reduceLeDiff, reduceCtorEq, ↓reduceIte, pickAV, lenAV, intAV, slcA, slcAV, iaddrAV, extAV, fldAV, eqCells, eqCell, contAV, appendAV, foldAV, maxI, minI, Option.some.injEq, catT, h2]
    refine hK _ _ nofun ?_
    clear hK K
    refine CW.seq ?_
    refine CW.condT rfl (CW.skip ?_)
    show CW _ _ _ _ _ _
    refine CW.seq ?_
    refine CW.block ?_
    by_cases h3 : okP p = true
    · refine CW.rI fun K hK => ?_
      simp (maxSteps := 4000000) only [amC, amR, evsA, evpA, elemsA, elemsP, sizedA, optA, refA, setO, Am.set, Am.get, AV.elem, AV.cells, AV.one, hsetL, hset, hget, loadAV, rowAt?, loadCells', faddrAV, binAV, fillA, storeAV, AV.putCells, AV.ref, List.foldl, List.all, List.map, List.set, List.take, List.drop, Option.getD, Option.map, if_true, if_false, Nat.reduceEqDiff, Nat.reduceAdd, Nat.reduceLT, Nat.reduceLeDiff, reduceCtorEq, ↓reduceIte, pickAV, lenAV, intAV, slcA, slcAV, iaddrAV, extAV, fldAV, eqCells, eqCell, contAV, appendAV, foldAV, maxI, minI, Option.some.injEq, catT, List.length_map, h2, hpt, Int.toNat_natCast, Int.natCast_nonneg, AV.cells, pt, AV.elem, AV.one, List.all_cons, List.all_nil]
      refine hK _ _ nofun ?_
      clear hK K
      refine CW.rI fun K hK => ?_
      simp (maxSteps := 4000000) only [amC, amR, evsA, evpA, elemsA, elemsP, sizedA, optA, refA, setO, Am.set, Am.get, AV.elem, AV.cells, AV.one, hsetL, hset, hget, loadAV, rowAt?, loadCells', faddrAV, binAV, fillA, storeAV, AV.putCells, AV.ref, List.foldl, List.all, List.map, List.set, List.take, List.drop, Option.getD, Option.map, if_true, if_false, Nat.reduceEqDiff, Nat.reduceAdd, Nat.reduceLT, Nat.reduceLeDiff, reduceCtorEq, ↓reduceIte, pickAV, lenAV, intAV, slcA, slcAV, iaddrAV, extAV, fldAV, eqCells, eqCell, contAV, appendAV, foldAV, maxI, minI, Option.some.injEq, catT, AV.cells, pt, AV.putCells]
      refine RunCall.view (fid := 82) (caps := []) rfl rfl rfl (c82 p) rfl ?_
      simp (maxSteps := 4000000) only [amC, amR, evsA, evpA, elemsA, elemsP, sizedA, optA, refA, setO, Am.set, Am.get, AV.elem, AV.cells, AV.one, hsetL, hset, hget, loadAV, rowAt?, loadCells', faddrAV, binAV, fillA, storeAV, AV.putCells, AV.ref, List.foldl, List.all, List.map, List.set, List.take, List.drop, Option.getD, Option.map, if_true, if_false, Nat.reduceEqDiff, Nat.reduceAdd, Nat.reduceLT, Nat.reduceLeDiff, reduceCtorEq, ↓reduceIte, pickAV, lenAV, intAV, slcA, slcAV, iaddrAV, extAV, fldAV, eqCells, eqCell, contAV, appendAV, foldAV, maxI, minI, Option.some.injEq, catT, h3]
      refine hK _ _ nofun ?_
      clear hK K
      refine CW.condF rfl (CW.skip ?_)
      show CW _ _ _ _ _ _
      refine CW.rE fun K hK => ?_
      simp (maxSteps := 4000000) only [amC, amR, evsA, evpA, elemsA, elemsP, sizedA, optA, refA, setO, Am.set, Am.get, AV.elem, AV.cells, AV.one, hsetL, hset, hget, loadAV, rowAt?, loadCells', faddrAV, binAV, fillA, storeAV, AV.putCells, AV.ref, List.foldl, List.all, List.map, List.set, List.take, List.drop, Option.getD, Option.map, if_true, if_false, Nat.reduceEqDiff, Nat.reduceAdd, Nat.reduceLT, Nat.reduceLeDiff, reduceCtorEq, ↓reduceIte, pickAV, lenAV, intAV, slcA, slcAV, iaddrAV, extAV, fldAV, eqCells, eqCell, contAV, appendAV, foldAV, maxI, minI, Option.some.injEq, catT, wrap_nat i (by omega)]
      refine hK _ _ nofun ?_
      clear hK K
      refine ⟨i + 1, by omega, ⟨by omega, ?_⟩, Fgt.mk' 0 (by simp) (by simp [keepB, Am.get, AV.lt, ltL_pt, ltL]) rfl trivial⟩
      rw [List.take_add_one, hp]
      simp [hi2, h3]
    · refine CW.rI fun K hK => ?_
      simp (maxSteps := 4000000) only [amC, amR, evsA, evpA, elemsA, elemsP, sizedA, optA, refA, setO, Am.set, Am.get, AV.elem, AV.cells, AV.one, hsetL, hset, hget, loadAV, rowAt?, loadCells', faddrAV, binAV, fillA, storeAV, AV.putCells, AV.ref, List.foldl, List.all, List.map, List.set, List.take, List.drop, Option.getD, Option.map, if_true, if_false, Nat.reduceEqDiff, Nat.reduceAdd, Nat.reduceLT, Nat.reduceLeDiff, reduceCtorEq, ↓reduceIte, pickAV, lenAV, intAV, slcA, slcAV, iaddrAV, extAV, fldAV, eqCells, eqCell, contAV, appendAV, foldAV, maxI, minI, Option.some.injEq, catT, List.length_map, h2, hpt, Int.toNat_natCast, Int.natCast_nonneg, AV.cells, pt, AV.elem, AV.one, List.all_cons, List.all_nil]
      refine hK _ _ nofun ?_
      clear hK K
      refine CW.rI fun K hK => ?_
      simp (maxSteps := 4000000) only [amC, amR, evsA, evpA, elemsA, elemsP, sizedA, optA, refA, setO, Am.set, Am.get, AV.elem, AV.cells, AV.one, hsetL, hset, hget, loadAV, rowAt?, loadCells', faddrAV, binAV, fillA, storeAV, AV.putCells, AV.ref, List.foldl, List.all, List.map, List.set, List.take, List.drop, Option.getD, Option.map, if_true, if_false, Nat.reduceEqDiff, Nat.reduceAdd, Nat.reduceLT, Nat.reduceLeDiff, reduceCtorEq, ↓reduceIte, pickAV, lenAV, intAV, slcA, slcAV, iaddrAV, extAV, fldAV, eqCells, eqCell, contAV, appendAV, foldAV, maxI, minI, Option.some.injEq, catT, AV.cells, pt, AV.putCells]
      refine RunCall.view (fid := 82) (caps := []) rfl rfl rfl (c82 p) rfl ?_
      simp (maxSteps := 4000000) only [amC, amR, evsA, evpA, elemsA, elemsP, sizedA, optA, refA, setO, Am.set, Am.get, AV.elem, AV.cells, AV.one, hsetL, hset, hget, loadAV, rowAt?, loadCells', faddrAV, binAV, fillA, storeAV, AV.putCells, AV.ref, List.foldl, List.all, List.map, List.set, List.take, List.drop, Option.getD, Option.map, if_true, if_false, Nat.reduceEqDiff, Nat.reduceAdd, Nat.reduceLT, Nat.reduceLeDiff, reduceCtorEq, ↓reduceIte, pickAV, lenAV, intAV, slcA, slcAV, iaddrAV, extAV, fldAV, eqCells, eqCell, contAV, appendAV, foldAV, maxI, minI, Option.some.injEq, catT, h3]
      refine hK _ _ nofun ?_
      clear hK K
      refine CW.condT rfl ?_
      refine CW.rI fun K hK => ?_
      simp (maxSteps := 4000000) only [amC, amR, evsA, evpA, elemsA, elemsP, sizedA, optA, refA, setO, Am.set, Am.get, AV.elem, AV.cells, AV.one, hsetL, hset, hget, loadAV, rowAt?, loadCells', faddrAV, binAV, fillA, storeAV, AV.putCells, AV.ref, List.foldl, List.all, List.map, List.set, List.take, List.drop, Option.getD, Option.map, if_true, if_false, Nat.reduceEqDiff, Nat.reduceAdd, Nat.reduceLT, Nat.reduceLeDiff, reduceCtorEq, ↓reduceIte, pickAV, lenAV, intAV, slcA, slcAV, iaddrAV, extAV, fldAV, eqCells, eqCell, contAV, appendAV, foldAV, maxI, minI, Option.some.injEq, catT]
      refine hK _ _ nofun ?_
      clear hK K
      have hc : (if l.all okP = true then (0 : Int) else 2) = 2 := by
        rw [if_neg]
        intro hall
        exact h3 (List.all_eq_true.1 hall p (List.mem_of_getElem? hp))
      rw [hc]
      exact CW.ret (finK_pure (.inr rfl) (xs := [.int .i64 2]) (by simp [resRV, Am.get, hc]) rfl rfl)
  · refine CW.rI fun K hK => ?_
    simp (maxSteps := 4000000) only [amC, amR, evsA, evpA, elemsA, elemsP, sizedA, optA, refA, setO, Am.set, Am.get, AV.elem, AV.cells, AV.one, hsetL, hset, hget, loadAV, rowAt?, loadCells', faddrAV, binAV, fillA, storeAV, AV.putCells, AV.ref, List.foldl, List.all, List.map, List.set, List.take, List.drop, Option.getD, Option.map, if_true, if_false, Nat.reduceEqDiff, Nat.reduceAdd, Nat.reduceLT, Nat.reduceLeDiff, reduceCtorEq, ↓reduceIte, pickAV, lenAV, intAV, slcA, slcAV, iaddrAV, extAV, fldAV, eqCells, eqCell, contAV, appendAV, foldAV, maxI, minI, Option.some.injEq, catT, h2]
    refine hK _ _ nofun ?_
    clear hK K
    refine CW.seq ?_
    refine CW.condF rfl (CW.exit ?_)
    show CW _ _ _ _ _ _
    refine CW.rI fun K hK => ?_
    simp (maxSteps := 4000000) only [amC, amR, evsA, evpA, elemsA, elemsP, sizedA, optA, refA, setO, Am.set, Am.get, AV.elem, AV.cells, AV.one, hsetL, hset, hget, loadAV, rowAt?, loadCells', faddrAV, binAV, fillA, storeAV, AV.putCells, AV.ref, List.foldl, List.all, List.map, List.set, List.take, List.drop, Option.getD, Option.map, if_true, if_false, Nat.reduceEqDiff, Nat.reduceAdd, Nat.reduceLT, Nat.reduceLeDiff, reduceCtorEq, ↓reduceIte, pickAV, lenAV, intAV, slcA, slcAV, iaddrAV, extAV, fldAV, eqCells, eqCell, contAV, appendAV, foldAV, maxI, minI, Option.some.injEq, catT]
    refine hK _ _ nofun ?_
    clear hK K
    have hil : i = l.length := by omega
    subst hil
    have hc : (if l.all okP = true then (0 : Int) else 2) = 0 := by
      rw [if_pos]
      simpa using hi2
    rw [hc]
    exact CW.ret (finK_pure (.inr rfl) (xs := [.int .i64 0]) (by simp [resRV, Am.get, hc]) rfl rfl)
theorem c81 (l : List Pt) (hl : l.length < 4611686018427387904) : CallsF Try.prog 81 [pts l, .clo 82 []] [] (.int .i64 (chk l)) [] := by
  refine callsF_cw hm hf81 (by simp [cf81]) ?_
  simp only [cf81, argsAl]
  refine CW.rI fun K hK => ?_
  simp (maxSteps := 4000000) only [amC, amR, evsA, evpA, elemsA, elemsP, sizedA, optA, refA, setO, Am.set, Am.get, AV.elem, AV.cells, AV.one, hsetL, hset, hget, loadAV, rowAt?, loadCells', faddrAV, binAV, fillA, storeAV, AV.putCells, AV.ref, List.foldl, List.all, List.map, List.set, List.take, List.drop, Option.getD, Option.map, if_true, if_false, Nat.reduceEqDiff, Nat.reduceAdd, Nat.reduceLT, Nat.reduceLeDiff, reduceCtorEq, ↓reduceIte, pickAV, lenAV, intAV, slcA, slcAV, iaddrAV, extAV, fldAV, eqCells, eqCell, contAV, appendAV, foldAV, maxI, minI, Option.some.injEq, catT]
  refine hK _ _ nofun ?_
  clear hK K
  refine CW.seq ?_
  by_cases h1 : (64 : Int) < (l.length : Int)
  · have hc : chk l = 5 := by unfold chk; rw [if_pos (by omega)]
    unfold pts
    refine CW.rI fun K hK => ?_
    simp (maxSteps := 4000000) only [amC, amR, evsA, evpA, elemsA, elemsP, sizedA, optA, refA, setO, Am.set, Am.get, AV.elem, AV.cells, AV.one, hsetL, hset, hget, loadAV, rowAt?, loadCells', faddrAV, binAV, fillA, storeAV, AV.putCells, AV.ref, List.foldl, List.all, List.map, List.set, List.take, List.drop, Option.getD, Option.map, if_true, if_false, Nat.reduceEqDiff, Nat.reduceAdd, Nat.reduceLT, Nat.reduceLeDiff, reduceCtorEq, ↓reduceIte, pickAV, lenAV, intAV, slcA, slcAV, iaddrAV, extAV, fldAV, eqCells, eqCell, contAV, appendAV, foldAV, maxI, minI, Option.some.injEq, catT, List.length_map, h1]
    refine hK _ _ nofun ?_
    clear hK K
    refine CW.condT rfl ?_
    refine CW.rI fun K hK => ?_
    simp (maxSteps := 4000000) only [amC, amR, evsA, evpA, elemsA, elemsP, sizedA, optA, refA, setO, Am.set, Am.get, AV.elem, AV.cells, AV.one, hsetL, hset, hget, loadAV, rowAt?, loadCells', faddrAV, binAV, fillA, storeAV, AV.putCells, AV.ref, List.foldl, List.all, List.map, List.set, List.take, List.drop, Option.getD, Option.map, if_true, if_false, Nat.reduceEqDiff, Nat.reduceAdd, Nat.reduceLT, Nat.reduceLeDiff, reduceCtorEq, ↓reduceIte, pickAV, lenAV, intAV, slcA, slcAV, iaddrAV, extAV, fldAV, eqCells, eqCell, contAV, appendAV, foldAV, maxI, minI, Option.some.injEq, catT]
    refine hK _ _ nofun ?_
    clear hK K
    exact CW.ret (finK_pure (.inr rfl) (xs := [.int .i64 (chk l)]) (by simp [resRV, Am.get, hc]) rfl rfl)
  · have hc : chk l = if l.all okP = true then 0 else 2 := by unfold chk; rw [if_neg (by omega)]
    unfold pts
    refine CW.rI fun K hK => ?_
    simp (maxSteps := 4000000) only [amC, amR, evsA, evpA, elemsA, elemsP, sizedA, optA, refA, setO, Am.set, Am.get, AV.elem, AV.cells, AV.one, hsetL, hset, hget, loadAV, rowAt?, loadCells', faddrAV, binAV, fillA, storeAV, AV.putCells, AV.ref, List.foldl, List.all, List.map, List.set, List.take, List.drop, Option.getD, Option.map, if_true, if_false, Nat.reduceEqDiff, Nat.reduceAdd, Nat.reduceLT, Nat.reduceLeDiff, reduceCtorEq, ↓reduceIte, pickAV, lenAV, intAV, slcA, slcAV, iaddrAV, extAV, fldAV, eqCells, eqCell, contAV, appendAV, foldAV, maxI, minI, Option.some.injEq, catT, List.length_map, h1]
    refine hK _ _ nofun ?_
    clear hK K
    refine CW.condF rfl (CW.skip ?_)
    show CW _ _ _ _ _ _
    refine CW.rI fun K hK => ?_
    simp (maxSteps := 4000000) only [amC, amR, evsA, evpA, elemsA, elemsP, sizedA, optA, refA, setO, Am.set, Am.get, AV.elem, AV.cells, AV.one, hsetL, hset, hget, loadAV, rowAt?, loadCells', faddrAV, binAV, fillA, storeAV, AV.putCells, AV.ref, List.foldl, List.all, List.map, List.set, List.take, List.drop, Option.getD, Option.map, if_true, if_false, Nat.reduceEqDiff, Nat.reduceAdd, Nat.reduceLT, Nat.reduceLeDiff, reduceCtorEq, ↓reduceIte, pickAV, lenAV, intAV, slcA, slcAV, iaddrAV, extAV, fldAV, eqCells, eqCell, contAV, appendAV, foldAV, maxI, minI, Option.some.injEq, catT]
    refine RunCall.view (fid := 102) (caps := []) rfl rfl (viewArgs_flat2 rfl (flat_pts l 2)) (c102 l hl) rfl ?_
    simp (maxSteps := 4000000) only [amC, amR, evsA, evpA, elemsA, elemsP, sizedA, optA, refA, setO, Am.set, Am.get, AV.elem, AV.cells, AV.one, hsetL, hset, hget, loadAV, rowAt?, loadCells', faddrAV, binAV, fillA, storeAV, AV.putCells, AV.ref, List.foldl, List.all, List.map, List.set, List.take, List.drop, Option.getD, Option.map, if_true, if_false, Nat.reduceEqDiff, Nat.reduceAdd, Nat.reduceLT, Nat.reduceLeDiff, reduceCtorEq, ↓reduceIte, pickAV, lenAV, intAV, slcA, slcAV, iaddrAV, extAV, fldAV, eqCells, eqCell, contAV, appendAV, foldAV, maxI, minI, Option.some.injEq, catT]
    refine hK _ _ nofun ?_
    clear hK K
    exact CW.ret (finK_pure (.inr rfl) (xs := [.int .i64 (chk l)]) (by simp [resRV, Am.get, hc]) rfl rfl)
theorem c50 (l : List Pt) (hl : l.length < 4611686018427387904) : CallsF Try.prog 50 [pts l] [] (.int .i64 (chk l)) [] := by
  refine callsF_cw hm hf50 (by simp [cf50]) ?_
  simp only [cf50, argsAl]
  refine CW.rI fun K hK => ?_
  simp (maxSteps := 4000000) only [amC, amR, evsA, evpA, elemsA, elemsP, sizedA, optA, refA, setO, Am.set, Am.get, AV.elem, AV.cells, AV.one, hsetL, hset, hget, loadAV, rowAt?, loadCells', faddrAV, binAV, fillA, storeAV, AV.putCells, AV.ref, List.foldl, List.all, List.map, List.set, List.take, List.drop, Option.getD, Option.map, if_true, if_false, Nat.reduceEqDiff, Nat.reduceAdd, Nat.reduceLT, Nat.reduceLeDiff, reduceCtorEq, ↓reduceIte, pickAV, lenAV, intAV, slcA, slcAV, iaddrAV, extAV, fldAV, eqCells, eqCell, contAV, appendAV, foldAV, maxI, minI, Option.some.injEq, catT]
  refine hK _ _ nofun ?_
  clear hK K
  refine CW.rI fun K hK => ?_
  simp (maxSteps := 4000000) only [amC, amR, evsA, evpA, elemsA, elemsP, sizedA, optA, refA, setO, Am.set, Am.get, AV.elem, AV.cells, AV.one, hsetL, hset, hget, loadAV, rowAt?, loadCells', faddrAV, binAV, fillA, storeAV, AV.putCells, AV.ref, List.foldl, List.all, List.map, List.set, List.take, List.drop, Option.getD, Option.map, if_true, if_false, Nat.reduceEqDiff, Nat.reduceAdd, Nat.reduceLT, Nat.reduceLeDiff, reduceCtorEq, ↓reduceIte, pickAV, lenAV, intAV, slcA, slcAV, iaddrAV, extAV, fldAV, eqCells, eqCell, contAV, appendAV, foldAV, maxI, minI, Option.some.injEq, catT]
  refine RunCall.view (fid := 81) (caps := []) rfl rfl (viewArgs_flat2 (flat_pts l 2) rfl) (c81 l hl) rfl ?_
  simp (maxSteps := 4000000) only [amC, amR, evsA, evpA, elemsA, elemsP, sizedA, optA, refA, setO, Am.set, Am.get, AV.elem, AV.cells, AV.one, hsetL, hset, hget, loadAV, rowAt?, loadCells', faddrAV, binAV, fillA, storeAV, AV.putCells, AV.ref, List.foldl, List.all, List.map, List.set, List.take, List.drop, Option.getD, Option.map, if_true, if_false, Nat.reduceEqDiff, Nat.reduceAdd, Nat.reduceLT, Nat.reduceLeDiff, reduceCtorEq, ↓reduceIte, pickAV, lenAV, intAV, slcA, slcAV, iaddrAV, extAV, fldAV, eqCells, eqCell, contAV, appendAV, foldAV, maxI, minI, Option.some.injEq, catT]
  refine hK _ _ nofun ?_
  clear hK K
  exact CW.ret (finK_pure (.inr rfl) (xs := [.int .i64 (chk l)]) (by simp [resRV, Am.get]) rfl rfl)
end Go.Hull
end
section
set_option linter.unusedSimpArgs false
set_option linter.unusedVariables false
namespace Go.Hull
open Go Go.Am Go.Proofs Go.ChangeShapes Go.WideShapes Go.ChangeAt Go.RowKit

section
variable {H : Type} {enc : TypeId × Value → H} {P : Program} {w : World} {base : Nat} {spare : Nat → Bool} {held : Bool}

/-- Two whole numbers in cells. -/
theorem cells_two {a : Addr} {cs : List Value} (h : w.cells? base a 2 = some cs) : ∃ u v, cs = [u, v] ∧ w.cell? (a.add 0) = some u ∧ w.cell? (a.add 1) = some v := by
  unfold World.cells? at h
  split at h <;> first | (cases h; done) | skip
  have hr : List.range 2 = [0, 1] := rfl
  rw [hr] at h
  simp only [List.mapM_cons, List.mapM_nil] at h
  cases h0 : w.cell? (a.add 0) with
  | none => simp [h0] at h
  | some u =>
    cases h1 : w.cell? (a.add 1) with
    | none => simp [h0, h1] at h
    | some v =>
      simp [h0, h1] at h
      exact ⟨u, v, h.symm, rfl, rfl⟩
theorem open_pts {t e k : TypeId} {fs : Array Field} {f0 f1 : Field} {fuel : Nat} {cs : List Value} {x : DataW H × List MemPlace} (ht : P.underlying t = some (.slice e)) (he : P.underlying e = some (.struct fs)) (hc : P.cellsOf e = 2)
    (h0 : fs[0]? = some f0) (h1 : fs[1]? = some f1) (t0 : f0.type = k) (t1 : f1.type = k) (o0 : f0.offset = 0) (o1 : f1.offset = 1) (hk : P.underlying k = some (.int .i64)) (hck : P.cellsOf k = 1)
    (h : DataW.trod enc P w base spare held fuel t cs = some x) :
    cs = [.slice none 0 0] ∨ ∃ (a : Addr) (len cap : Nat) (zs : List Pt), cs = [.slice (some a) len cap] ∧ len ≤ cap ∧ cap ≤ maxLen ∧ zs.length = len ∧
      ∀ (i : Nat) (p : Pt), zs[i]? = some p → w.cell? (a.add (i * 2)) = some (.int .i64 p.1) ∧ w.cell? (a.add (i * 2 + 1)) = some (.int .i64 p.2) := by
  rcases DataW.trod_slice ht h with ⟨rfl, -⟩ | ⟨a, len, cap, elems, rest, n, _, rfl, rfl, hb, hl, hm, hlen, hel, hsp, hns⟩
  · exact .inl rfl
  right
  have each : ∀ i, i < len → ∃ p : Pt, w.cell? (a.add (i * 2)) = some (.int .i64 p.1) ∧ w.cell? (a.add (i * 2 + 1)) = some (.int .i64 p.2) := by
    intro i hi
    have hi' := hel i hi
    obtain ⟨y, hy⟩ : ∃ y, elems[i]? = some y := ⟨elems[i]'(by omega), List.getElem?_eq_getElem (by omega)⟩
    rw [hy, hc, Option.bind_eq_some_iff] at hi'
    obtain ⟨cs', hcs, hy'⟩ := hi'
    obtain ⟨u, v, rfl, hu, hv⟩ := cells_two hcs
    obtain ⟨xs, m, -, -, -, hxl, hxf⟩ := DataW.trod_struct he hy'
    have e0 := hxf 0 f0 h0
    have e1 := hxf 1 f1 h1
    rw [t0, o0, hck] at e0
    rw [t1, o1, hck] at e1
    have l0 : 0 < xs.length := by rw [hxl]; exact (Array.getElem?_eq_some_iff.1 h0).1
    have l1 : 1 < xs.length := by rw [hxl]; exact (Array.getElem?_eq_some_iff.1 h1).1
    rw [List.getElem?_eq_getElem l0] at e0
    rw [List.getElem?_eq_getElem l1] at e1
    obtain ⟨n0, g0, -, -⟩ := DataW.trod_int hk e0
    obtain ⟨n1, g1, -, -⟩ := DataW.trod_int hk e1
    simp at g0 g1
    subst g0 g1
    refine ⟨(n0, n1), ?_, ?_⟩
    · simpa [Addr.add] using hu
    · have e : (a.add (i * 2)).add 1 = a.add (i * 2 + 1) := by
        unfold Addr.add
        by_cases h : i * 2 = 0 <;> simp [h] <;> omega
      rw [e] at hv
      exact hv
  refine ⟨a, len, cap, (List.range len).map (fun i => if h : i < len then (each i h).choose else (0, 0)), rfl, hl, hm, by simp, fun i p hp => ?_⟩
  rw [List.getElem?_map] at hp
  have hi : i < len := by
    refine Nat.lt_of_not_le fun hle => ?_
    rw [List.getElem?_eq_none (by simpa using hle)] at hp
    cases hp
  rw [List.getElem?_range hi] at hp
  simp only [Option.map_some, Option.some.injEq, dif_pos hi] at hp
  subst hp
  exact (each i hi).choose_spec
end

def k0 (w : World) : Am.K := { B := w.heap.size, prot := fun _ => 0, rho := fun _ _ => none, yl := none }
theorem k0_inv (w : World) : Inv (k0 w) (hget []) w := ⟨Nat.le_refl _, fun b => fun g => rfl, fun b b' loc loc' h => (by obtain ⟨g, frz, sz, xs, h1, _⟩ := h; cases h1), fun c h => absurd rfl h⟩
theorem rel_pts {w : World} {a : Addr} {len cap : Nat} {zs : List Pt} (hl : len ≤ cap) (hz : zs.length = len) (hcell : ∀ (i : Nat) (p : Pt), zs[i]? = some p → w.cell? (a.add (i * 2)) = some (.int .i64 p.1) ∧ w.cell? (a.add (i * 2 + 1)) = some (.int .i64 p.2)) :
    VRel (k0 w) w (pts zs) (.slice (some a) len cap) := by
  have hspot : zs ≠ [] → a.spot = none := fun hne => by
    obtain ⟨p, l, rfl⟩ := List.exists_cons_of_ne_nil hne
    have := (hcell 0 p rfl).1
    unfold World.cell? at this
    split at this <;> first | (cases this; done) | skip
    split at this <;> first | (cases this; done) | skip
    rename_i hs
    simpa [Addr.add] using hs
  have key : ∀ (k j : Nat) (x : AV), cellAt (zs.map pt) k j = some x → ∃ p, zs[k]? = some p ∧ ((j = 0 ∧ x = .int .i64 p.1) ∨ (j = 1 ∧ x = .int .i64 p.2)) := fun k j x hk => by
    unfold cellAt at hk
    rw [List.getElem?_map] at hk
    cases hq : zs[k]? with
    | none => simp [hq] at hk
    | some p =>
      simp only [hq, Option.map_some, Option.bind_some, pt, AV.cells] at hk
      refine ⟨p, rfl, ?_⟩
      match j with
      | 0 => left; simp at hk; exact ⟨rfl, hk.symm⟩
      | 1 => right; simp at hk; exact ⟨rfl, hk.symm⟩
      | j + 2 => simp at hk
  have hlen : (zs.map pt).length = len := by simpa using hz
  have := VRel.sv (κ := k0 w) (w := w) (vol := false) (sz := 2) (xs := zs.map pt) (some a) cap (fun k j => if j = 0 then .int .i64 (zs.getD k (0, 0)).1 else .int .i64 (zs.getD k (0, 0)).2) (by omega) nofun
    (fun hne => ⟨a, rfl, hspot (by rintro rfl; exact hne rfl)⟩)
    (fun p k j x hp hk => by
      cases hp
      obtain ⟨q, hq, hx⟩ := key k j x hk
      have hne : zs ≠ [] := by rintro rfl; simp at hq
      have hsp := hspot hne
      obtain ⟨c0, c1⟩ := hcell k q hq
      have hgd : zs.getD k (0, 0) = q := by simp [List.getD_eq_getElem?_getD, hq]
      have hpr : ∀ off v, w.cell? ⟨a.block, off, none⟩ = some v → Pr (k0 w) a.block off := fun off v hv => .inl (World.block_lt_of_cell? w ⟨a.block, off, none⟩ hv)
      rcases hx with ⟨rfl, -⟩ | ⟨rfl, -⟩
      · have e : (a.add (k * 2)) = ⟨a.block, a.off + k * 2 + 0, none⟩ := by
          obtain ⟨ab, ao, asp⟩ := a
          simp only at hsp
          subst hsp
          unfold Addr.add
          by_cases h : k * 2 = 0 <;> simp [h]
        rw [e] at c0
        simp only [if_true, hgd]
        exact ⟨c0, hpr _ _ c0⟩
      · have e : (a.add (k * 2 + 1)) = ⟨a.block, a.off + k * 2 + 1, none⟩ := by simp [Addr.add, hsp, Nat.add_assoc]
        rw [e] at c1
        rw [if_neg (by decide), hgd]
        exact ⟨c1, hpr _ _ c1⟩)
    (fun e he => by obtain ⟨p, -, rfl⟩ := List.mem_map.1 he; rfl)
    (fun k j x hk => by
      obtain ⟨q, hq, hx⟩ := key k j x hk
      have hgd : zs.getD k (0, 0) = q := by simp [List.getD_eq_getElem?_getD, hq]
      rcases hx with ⟨rfl, rfl⟩ | ⟨rfl, rfl⟩
      · rw [if_pos rfl, hgd]; exact .int _ _
      · rw [if_neg (by decide), hgd]; exact .int _ _)
  rw [hlen] at this
  exact this
theorem rel_nil (w : World) : VRel (k0 w) w (pts []) (.slice none 0 0) :=
  VRel.sv (vol := false) (sz := 2) (xs := []) none 0 (fun _ _ => undef) (Nat.le_refl _) nofun (fun h => absurd rfl h) (fun p k j x hp => by cases hp) (fun e he => by cases he) (fun k j x hk => by simp [cellAt] at hk)
/-- A law's contract as the machine's call. -/
theorem law_calls {f : Nat} {args : List AV} (hC : CallsF Try.prog f args [] (.bool true) []) {w : World} {vs : Array Value} (hl : args.length = vs.size) (hr : ∀ (i : Nat) (x : AV) (v : Value), args[i]? = some x → vs[i]? = some v → VRel (k0 w) w x v) :
    Calls Try.prog f vs w fun e w' => e = .returned (.bool true) ∧ Below w.heap.size w w' := by
  refine callsIn_wide.1 ((hC.calls (k0 w) w vs rfl (k0_inv w) hl hr).mono ?_)
  rintro e w' ⟨v, κ', rfl, hx, hi, hv, hc⟩
  cases hv
  refine ⟨rfl, ?_⟩
  have := hc.below (k0_inv w)
  exact this
end Go.Hull
end
section
set_option linter.unusedVariables false
namespace Go.Hull.Separates
open Go Go.Am Go.Proofs Go.Proofs.Ytkbpkbjfphdgeaa Go.ChangeShapes Go.WideShapes Go.ChangeAt Go.RowKit

theorem own : ownKnob Try.prog.godebug = none := by kernel_rfl
theorem laidOut : laidOutB Try.prog = true := by kernel_rfl
def Contract : Prop := ∀ (x0 : List Pt) (x1 : List Pt), CallsF Try.prog 5 [pts x0, pts x1] [] (.bool true) []
set_option maxRecDepth 100000 in
theorem lifted (hC : Contract) (os : Os) (started : os.Started) (H : Type) (enc : TypeId × Value → H) :
    ReturnsInHanded {} Try.checked os 5 .any (Rows.hullSeparatesSpec.pre6 enc Try.prog Try.f5 Rows.hullSeparatesRow.domain false) (Rows.hullSeparatesSpec.post enc Try.prog Try.f5 false true false false) := by
  refine returnsInHanded_of_change_sized (C := Try.checked) own started (by kernel_rfl) Try.func5
    (ChangeSpec.witness6 (enc := enc) (C := Try.checked) false ⟨#[], #[.slice none 0 0, .slice none 0 0], []⟩ 8 (by kernel_rfl) (by kernel_rfl) (by kernel_rfl) (by kernel_rfl)) ?_
  intro W base args ds gs before hval0 hW hcnd hsz0 _
  have hval : ∀ (j : Nat) t v, Try.f5.params[j]? = some t → args[j]? = some v → Value.okWide Try.prog W .any base t v := hval0
  have hW' := hW
  obtain ⟨p, q, hA0, hV, rfl, hfz, hnd⟩ := hW
  have hA : DataW.TrodAll enc Try.prog W 0 (fun _ => true) true Try.f5.params.toList args.toList ds p := hA0
  rw [Try.params5] at hA hval
  obtain ⟨v0, vs0, d0, ds0, p0, q0, hargs0, rfl, rfl, h0, r0⟩ := trodAll_cons hA
  obtain ⟨v1, vs1, d1, ds1, p1, q1, hargs1, rfl, rfl, h1, r1⟩ := trodAll_cons r0
  obtain ⟨rfl, rfl, rfl⟩ := trodAll_nil r1
  obtain rfl : args = #[v0, v1] := by cases args; simp_all
  obtain ⟨rfl, rfl⟩ := trodVars_none hV
  have kk0 := h0
  have lt0 : ∀ x ∈ p0, x.block < W.heap.size := by obtain ⟨m, hm⟩ := kk0; exact DataW.trod_lt m _ _ _ hm
  obtain ⟨a0, len0, cap0, rfl⟩ := okWide_slice Try.underlying22 (hval 0 22 v0 rfl rfl)
  obtain ⟨z0, hz0⟩ : ∃ zs : List Pt, VRel (k0 W) W (pts zs) (.slice a0 len0 cap0) := by
    obtain ⟨fuel, hf⟩ := h0
    rcases open_pts Try.underlying22 Try.underlying24 (by kernel_rfl) rfl rfl rfl rfl rfl rfl Try.underlying3 (by kernel_rfl) hf with hcs | ⟨a, len, cap, zs, hcs, hl, hm, hz, hcell⟩
    · simp [Value.cells] at hcs
      obtain ⟨rfl, rfl, rfl⟩ := hcs
      exact ⟨[], rel_nil W⟩
    · simp [Value.cells] at hcs
      obtain ⟨rfl, rfl, rfl⟩ := hcs
      exact ⟨zs, rel_pts hl hz hcell⟩
  have kk1 := h1
  have lt1 : ∀ x ∈ p1, x.block < W.heap.size := by obtain ⟨m, hm⟩ := kk1; exact DataW.trod_lt m _ _ _ hm
  obtain ⟨a1, len1, cap1, rfl⟩ := okWide_slice Try.underlying22 (hval 1 22 v1 rfl rfl)
  obtain ⟨z1, hz1⟩ : ∃ zs : List Pt, VRel (k0 W) W (pts zs) (.slice a1 len1 cap1) := by
    obtain ⟨fuel, hf⟩ := h1
    rcases open_pts Try.underlying22 Try.underlying24 (by kernel_rfl) rfl rfl rfl rfl rfl rfl Try.underlying3 (by kernel_rfl) hf with hcs | ⟨a, len, cap, zs, hcs, hl, hm, hz, hcell⟩
    · simp [Value.cells] at hcs
      obtain ⟨rfl, rfl, rfl⟩ := hcs
      exact ⟨[], rel_nil W⟩
    · simp [Value.cells] at hcs
      obtain ⟨rfl, rfl, rfl⟩ := hcs
      exact ⟨zs, rel_pts hl hz hcell⟩
  clear hA0 hval0 hsz0
  refine (law_calls (hC z0 z1) (w := W) (vs := #[.slice a0 len0 cap0, .slice a1 len1 cap1]) rfl (fun i x v hx hv => ?_)).mono fun e W' ⟨he, bel⟩ => ?_
  · match i with
    | 0 => simp at hx hv; subst hx hv; exact hz0
    | 1 => simp at hx hv; subst hx hv; exact hz1
    | i + 2 => simp at hx
  subst he
  exact ⟨_, rfl, _, _, _, [], _, [], hW', trodAll_mk1 (shut_bool Try.underlying4 _), (trodAll_cons_mk (Below.trod laidOut (by kernel_rfl) (of_decide_eq_true (by kernel_rfl)) kk0 bel lt0) (trodAll_cons_mk (Below.trod laidOut (by kernel_rfl) (of_decide_eq_true (by kernel_rfl)) kk1 bel lt1) trodAll_mk0)), rfl, bel.frame _, fun h => by cases h⟩
theorem over (hC : Contract) : Rows.hullSeparatesRow.holds Try.pinned (OpenSpec.ofChange Rows.hullSeparatesSpec) :=
  OpenClaim.holds_of_wide 5 Try.f5 rfl rfl rfl rfl rfl rfl rfl ⟨rfl, rfl, rfl, rfl, rfl⟩ rfl rfl rfl rfl rfl (by kernel_rfl) Try.func5 (by kernel_rfl)
    (of_decide_eq_true (by kernel_rfl)) (by unfold Func.isWrapper; first | (rw [if_pos (by decide +kernel)]; kernel_rfl) | (rw [if_neg (by decide +kernel)]; exact ⟨rfl, rfl⟩))
    (fun os started H enc _ => lifted hC os started H enc)
end Go.Hull.Separates
end
section
set_option linter.unusedSimpArgs false
set_option linter.unusedVariables false
namespace Go.Hull
open Go Go.Am Go.Proofs

theorem wr (n : Int) (h1 : -4611686018427387904 ≤ n) (h2 : n ≤ 4611686018427387904) : IntKind.i64.wrap n = n := IntWalk.i64_in _ (by omega)
theorem okP_iff {p : Pt} : okP p = true ↔ (-100000 ≤ p.1 ∧ p.1 ≤ 100000) ∧ (-100000 ≤ p.2 ∧ p.2 ≤ 100000) := by simp [okP, ok1]
theorem mul_bd {x y : Int} (h1 : -200000 ≤ x) (h2 : x ≤ 200000) (h3 : -200000 ≤ y) (h4 : y ≤ 200000) : -40000000000 ≤ x * y ∧ x * y ≤ 40000000000 := by
  have a1 := Int.mul_nonneg (show (0 : Int) ≤ 200000 - x by omega) (show (0 : Int) ≤ 200000 + y by omega)
  have a2 := Int.mul_nonneg (show (0 : Int) ≤ 200000 + x by omega) (show (0 : Int) ≤ 200000 - y by omega)
  have a3 := Int.mul_nonneg (show (0 : Int) ≤ 200000 - x by omega) (show (0 : Int) ≤ 200000 - y by omega)
  have a4 := Int.mul_nonneg (show (0 : Int) ≤ 200000 + x by omega) (show (0 : Int) ≤ 200000 + y by omega)
  simp only [Int.sub_mul, Int.add_mul, Int.mul_sub, Int.mul_add] at a1 a2 a3 a4
  have e : x * 200000 = 200000 * x := Int.mul_comm _ _
  omega
def sub (p q : Pt) : Pt := (p.1 - q.1, p.2 - q.2)
def turn (u v : Pt) : Int := u.1 * v.2 - u.2 * v.1
def left (p q r : Pt) : Int := turn (sub q p) (sub r p)
def before (p q : Pt) : Bool := decide (p.1 < q.1) || (p.1 == q.1 && decide (p.2 < q.2))
theorem c75 {p q : Pt} (hp : okP p = true) (hq : okP q = true) : CallsF Try.prog 75 [pt p, pt q] [] (pt (sub p q)) [] := by
  obtain ⟨⟨a1, a2⟩, a3, a4⟩ := okP_iff.1 hp
  obtain ⟨⟨b1, b2⟩, b3, b4⟩ := okP_iff.1 hq
  have e1 := wr (p.1 - q.1) (by omega) (by omega)
  have e2 := wr (p.2 - q.2) (by omega) (by omega)
  refine callsF_cw hm hf75 (by simp [cf75]) ?_
  simp only [cf75, argsAl]
  unfold pt
  refine CW.rI fun K hK => ?_
  simp (maxSteps := 4000000) only [amC, amR, evsA, evpA, elemsA, elemsP, sizedA, optA, refA, setO, Am.set, Am.get, AV.elem, AV.cells, AV.one, hsetL, hset, hget, loadAV, rowAt?, loadCells', faddrAV, binAV, fillA, storeAV, AV.putCells, AV.ref, List.foldl, List.all, List.map, List.set, List.take, List.drop, Option.getD, Option.map, if_true, if_false, Nat.reduceEqDiff, Nat.reduceAdd, Nat.reduceLT, Nat.reduceLeDiff, reduceCtorEq, ↓reduceIte, pickAV, lenAV, intAV, slcA, slcAV, iaddrAV, extAV, fldAV, eqCells, eqCell, contAV, appendAV, foldAV, maxI, minI, Option.some.injEq, catT, AV.cells, AV.elem, AV.one, List.all_cons, List.all_nil]
  refine hK _ _ nofun ?_
  clear hK K
  refine CW.rI fun K hK => ?_
  simp (maxSteps := 4000000) only [amC, amR, evsA, evpA, elemsA, elemsP, sizedA, optA, refA, setO, Am.set, Am.get, AV.elem, AV.cells, AV.one, hsetL, hset, hget, loadAV, rowAt?, loadCells', faddrAV, binAV, fillA, storeAV, AV.putCells, AV.ref, List.foldl, List.all, List.map, List.set, List.take, List.drop, Option.getD, Option.map, if_true, if_false, Nat.reduceEqDiff, Nat.reduceAdd, Nat.reduceLT, Nat.reduceLeDiff, reduceCtorEq, ↓reduceIte, pickAV, lenAV, intAV, slcA, slcAV, iaddrAV, extAV, fldAV, eqCells, eqCell, contAV, appendAV, foldAV, maxI, minI, Option.some.injEq, catT, AV.cells, AV.elem, AV.one, List.all_cons, List.all_nil, e1, e2, AV.putCells]
  refine hK _ _ nofun ?_
  clear hK K
  exact CW.ret (finK_pure (.inr rfl) (xs := [.agg [.int .i64 (p.1 - q.1), .int .i64 (p.2 - q.2)]]) (by simp [resRV, Am.get, loadAV, rowAt?, hget, AV.cells, loadCells']) rfl rfl)
def smallV (u : Pt) : Prop := (-200000 ≤ u.1 ∧ u.1 ≤ 200000) ∧ (-200000 ≤ u.2 ∧ u.2 ≤ 200000)
theorem sub_small {p q : Pt} (hp : okP p = true) (hq : okP q = true) : smallV (sub p q) := by
  obtain ⟨⟨a1, a2⟩, a3, a4⟩ := okP_iff.1 hp
  obtain ⟨⟨b1, b2⟩, b3, b4⟩ := okP_iff.1 hq
  simp only [smallV, sub]
  omega
theorem c57' {p q : Pt} (hp : okP p = true) (hq : okP q = true) : CallsF Try.prog 57 [pt p, pt q] [] (pt (sub p q)) [] := by
  obtain ⟨⟨a1, a2⟩, a3, a4⟩ := okP_iff.1 hp
  obtain ⟨⟨b1, b2⟩, b3, b4⟩ := okP_iff.1 hq
  have e1 := wr (p.1 - q.1) (by omega) (by omega)
  have e2 := wr (p.2 - q.2) (by omega) (by omega)
  refine callsF_cw hm hf57 (by simp [cf57]) ?_
  simp only [cf57, argsAl]
  unfold pt
  refine CW.rI fun K hK => ?_
  simp (maxSteps := 4000000) only [amC, amR, evsA, evpA, elemsA, elemsP, sizedA, optA, refA, setO, Am.set, Am.get, AV.elem, AV.cells, AV.one, hsetL, hset, hget, loadAV, rowAt?, loadCells', faddrAV, binAV, fillA, storeAV, AV.putCells, AV.ref, List.foldl, List.all, List.map, List.set, List.take, List.drop, Option.getD, Option.map, if_true, if_false, Nat.reduceEqDiff, Nat.reduceAdd, Nat.reduceLT, Nat.reduceLeDiff, reduceCtorEq, ↓reduceIte, pickAV, lenAV, intAV, slcA, slcAV, iaddrAV, extAV, fldAV, eqCells, eqCell, contAV, appendAV, foldAV, maxI, minI, Option.some.injEq, catT, AV.cells, AV.elem, AV.one, List.all_cons, List.all_nil]
  refine hK _ _ nofun ?_
  clear hK K
  refine CW.rI fun K hK => ?_
  simp (maxSteps := 4000000) only [amC, amR, evsA, evpA, elemsA, elemsP, sizedA, optA, refA, setO, Am.set, Am.get, AV.elem, AV.cells, AV.one, hsetL, hset, hget, loadAV, rowAt?, loadCells', faddrAV, binAV, fillA, storeAV, AV.putCells, AV.ref, List.foldl, List.all, List.map, List.set, List.take, List.drop, Option.getD, Option.map, if_true, if_false, Nat.reduceEqDiff, Nat.reduceAdd, Nat.reduceLT, Nat.reduceLeDiff, reduceCtorEq, ↓reduceIte, pickAV, lenAV, intAV, slcA, slcAV, iaddrAV, extAV, fldAV, eqCells, eqCell, contAV, appendAV, foldAV, maxI, minI, Option.some.injEq, catT, AV.cells, AV.elem, AV.one, List.all_cons, List.all_nil, e1, e2, AV.putCells]
  refine hK _ _ nofun ?_
  clear hK K
  exact CW.ret (finK_pure (.inr rfl) (xs := [.agg [.int .i64 (p.1 - q.1), .int .i64 (p.2 - q.2)]]) (by simp [resRV, Am.get, loadAV, rowAt?, hget, AV.cells, loadCells']) rfl rfl)
end Go.Hull
end
section
set_option linter.unusedSimpArgs false
set_option linter.unusedVariables false
set_option maxHeartbeats 2000000
namespace Go.Hull
open Go Go.Am Go.Proofs

def ix (xs : List Nat) : List AV := xs.map fun (n : Nat) => .int .i64 (n : Int)
theorem ix_length (xs : List Nat) : (ix xs).length = xs.length := by simp [ix]
theorem ix_get (xs : List Nat) {i : Nat} (h : i < xs.length) : (ix xs)[i]? = some (.int .i64 ((xs.getD i 0 : Nat) : Int)) := by
  simp [ix, List.getD_eq_getElem?_getD, List.getElem?_eq_getElem h]
theorem ix_take (xs : List Nat) (n : Nat) : (ix xs).take n = ix (xs.take n) := by simp [ix]
theorem ix_drop (xs : List Nat) (n : Nat) : (ix xs).drop n = ix (xs.drop n) := by simp [ix]
theorem ltL_ix (xs : List Nat) (m : Nat) : ltL m (ix xs) = true := by
  induction xs with
  | nil => rfl
  | cons x xs ih => simp only [ix, List.map_cons, ltL, AV.lt, Bool.true_and]; exact ih
theorem getp {l : List Pt} {k : Nat} (h : k < l.length) : l[k]? = some (l.getD k (0, 0)) := by
  simp [List.getD_eq_getElem?_getD, List.getElem?_eq_getElem h]
theorem getD_lt {n : Nat} {xs : List Nat} (h : ∀ x ∈ xs, x < n) {k : Nat} (hk : k < xs.length) : xs.getD k 0 < n := h _ (by rw [List.getD_eq_getElem?_getD, List.getElem?_eq_getElem hk]; simp)
end Go.Hull
end
section
set_option linter.unusedSimpArgs false
set_option linter.unusedVariables false
set_option maxHeartbeats 2000000
namespace Go.Hull
open Go Go.Am Go.Proofs

def rv (n : Nat) : Nat → Nat → List Nat → List Nat
  | 0, _, xs => xs
  | f + 1, i, xs => if i < n - 1 - i then rv n f (i + 1) ((xs.set i (xs.getD (n - 1 - i) 0)).set (n - 1 - i) (xs.getD i 0)) else xs
end Go.Hull
end
section
set_option linter.unusedSimpArgs false
set_option linter.unusedVariables false
set_option maxHeartbeats 2000000
namespace Go.Hull
open Go Go.Am Go.Proofs

theorem elem_int (k : IntKind) (n : Int) : (AV.int k n).elem = true := rfl
theorem all_ok {l : List Pt} (h : l.all okP = true) {k : Nat} (hk : k < l.length) : okP (l.getD k (0, 0)) = true :=
  List.all_eq_true.1 h _ (List.mem_of_getElem? (getp hk))
end Go.Hull
end
section
set_option linter.unusedSimpArgs false
set_option linter.unusedVariables false
set_option maxHeartbeats 2000000
namespace Go.Hull
open Go Go.Am Go.Proofs

theorem ix_append (xs ys : List Nat) : ix xs ++ ix ys = ix (xs ++ ys) := by simp [ix]
end Go.Hull
end
section
set_option linter.unusedSimpArgs false
set_option linter.unusedVariables false
set_option maxHeartbeats 2000000
namespace Go.Hull
open Go Go.Am Go.Proofs

theorem optL_self {f : AV → Option (AV × List Nat)} : ∀ (l : List AV), (∀ x ∈ l, f x = some (x, [])) → optL f l = some (l.map fun x => (x, [])) := by
  intro l
  induction l with
  | nil => intro _; rfl
  | cons x l ih => intro h; simp only [optL, h x (by simp), ih (fun y hy => h y (by simp [hy])), List.map_cons]
theorem catT_nil : ∀ (l : List AV), catT (l.map fun x => (x, ([] : List Nat))) = [] := by
  intro l
  induction l with
  | nil => rfl
  | cons x l ih => simp only [List.map_cons, catT, ih, List.append_nil]
theorem viewG_ix {hl : List Blk} {b g i k : Nat} {nil frz : Bool} {xs : List Nat} (hb : hget hl b = .row nil g frz 1 (ix xs)) (h : i + k ≤ xs.length) : viewG hl 6 (.sl b g i k) = some (.sv false 1 (ix ((xs.drop i).take k)), [b]) := by
  have he : ((ix xs).drop i).take k = ix ((xs.drop i).take k) := by rw [ix_drop, ix_take]
  have h1 : optL (viewG hl 5) (ix ((xs.drop i).take k)) = some ((ix ((xs.drop i).take k)).map fun x => (x, [])) := optL_self _ fun x hx => by
    obtain ⟨n, -, rfl⟩ := List.mem_map.1 hx
    exact viewG_flat rfl 4
  have h2 : (((ix ((xs.drop i).take k)).map fun x => (x, ([] : List Nat))).all fun y => Nat.beq y.1.cells.length 1) = true := by
    rw [List.all_eq_true]
    intro y hy
    obtain ⟨x, hx, rfl⟩ := List.mem_map.1 hy
    obtain ⟨n, -, rfl⟩ := List.mem_map.1 hx
    rfl
  have hc : True ∧ i + k ≤ (ix xs).length := ⟨trivial, by rw [ix_length]; exact h⟩
  unfold viewG
  simp only [flatN, AV.lt, Nat.not_lt_zero, decide_false, Bool.false_eq_true, if_false, hb]
  rw [if_pos hc]
  simp only [he, h1, h2, if_true, List.map_map, Function.comp_def, List.map_id', catT_nil]
theorem all_ix (xs : List Nat) : (ix xs).all AV.elem = true := by
  rw [List.all_eq_true]
  intro x hx
  obtain ⟨n, -, rfl⟩ := List.mem_map.1 hx
  rfl
end Go.Hull
end
section
set_option linter.unusedVariables false
namespace Go.Hull

def Lp (u : Pt) : Prop := 0 < u.1 ∨ (u.1 = 0 ∧ 0 < u.2)
theorem before_iff {p q : Pt} : before p q = true ↔ Lp (sub q p) := by
  simp only [before, Lp, sub, Bool.or_eq_true, Bool.and_eq_true, decide_eq_true_eq, beq_iff_eq]
  omega
theorem before_irrefl (p : Pt) : before p p = false := by
  cases h : before p p with
  | false => rfl
  | true => rw [before_iff] at h; simp only [Lp, sub] at h; omega
theorem before_trans {p q r : Pt} (h1 : before p q = true) (h2 : before q r = true) : before p r = true := by
  rw [before_iff] at *; simp only [Lp, sub] at *; omega
theorem before_asymm {p q : Pt} (h1 : before p q = true) : before q p = false := by
  cases h : before q p with
  | false => rfl
  | true => have := before_trans h1 h; rw [before_irrefl] at this; cases this
theorem turn_trans {u v w : Pt} (hu : Lp u) (hv : Lp v) (hw : Lp w) (h1 : 0 ≤ turn u v) (h2 : 0 ≤ turn v w) : 0 ≤ turn u w := by
  obtain ⟨a, b⟩ := u
  obtain ⟨c, d⟩ := v
  obtain ⟨e, f⟩ := w
  simp only [Lp, turn] at *
  have ha : 0 ≤ a := by omega
  have he : 0 ≤ e := by omega
  rcases hv with hc | ⟨hc, hd⟩
  · have e1 : c * (a * f - b * e) = a * (c * f - d * e) + e * (a * d - b * c) := by grind
    have e2 := Int.mul_nonneg ha h2
    have e3 := Int.mul_nonneg he h1
    have e4 : 0 ≤ c * (a * f - b * e) := by omega
    exact Int.nonneg_of_mul_nonneg_right e4 hc
  · subst hc
    have e0 : e = 0 := by
      rcases Int.lt_or_eq_of_le he with h | h
      · have := Int.mul_pos hd h
        simp only [Int.zero_mul] at h2
        omega
      · exact h.symm
    subst e0
    have hf : 0 < f := by omega
    have := Int.mul_nonneg ha (Int.le_of_lt hf)
    simp only [Int.mul_zero]
    omega
theorem left_eq (a b c : Pt) : left a b c = turn (sub b a) (sub c b) := by simp only [left, turn, sub]; grind
/-- A chain: from its last point back to its first. -/
inductive Chn (D : Pt → Prop) : List Pt → Prop where
  | one (p : Pt) : Chn D [p]
  | two {a b : Pt} : before a b = true → (∀ q, D q → 0 ≤ left a b q) → Chn D [b, a]
  | more {a b c : Pt} {r : List Pt} : before b c = true → (∀ q, D q → 0 ≤ left b c q) → 0 < left a b c → Chn D (b :: a :: r) → Chn D (c :: b :: a :: r)
theorem Chn.ext {D : Pt → Prop} {p : Pt} : ∀ {r : List Pt} {a b : Pt}, Chn D (b :: a :: r) → 0 ≤ left a b p → before b p = true → Chn (fun q => D q ∨ q = p) (b :: a :: r) := by
  intro r
  induction r with
  | nil =>
    intro a b h hl hb
    cases h with
    | two h1 h2 =>
      refine .two h1 fun q hq => ?_
      rcases hq with hq | rfl
      · exact h2 q hq
      · exact hl
  | cons c r ih =>
    intro a b h hl hb
    cases h with
    | more h1 h2 h3 h4 =>
      have h4' := h4
      have hca : before c a = true := by
        cases h4 with
        | two h _ => exact h
        | more h _ _ _ => exact h
      refine .more h1 (fun q hq => ?_) h3 (ih h4' ?_ (before_trans h1 hb))
      · rcases hq with hq | rfl
        · exact h2 q hq
        · exact hl
      · have k := turn_trans (u := sub a c) (v := sub b a) (w := sub p b) (before_iff.1 hca) (before_iff.1 h1) (before_iff.1 hb) (by rw [← left_eq]; omega) (by rw [← left_eq]; exact hl)
        have e : left c a p = left c a b + turn (sub a c) (sub p b) := by simp only [left, turn, sub]; grind
        omega
theorem Chn.mono {D D' : Pt → Prop} (h : ∀ q, D' q → D q) : ∀ {st : List Pt}, Chn D st → Chn D' st := by
  intro st hc
  induction hc with
  | one p => exact .one p
  | two h1 h2 => exact .two h1 fun q hq => h2 q (h q hq)
  | more h1 h2 h3 _ ih => exact .more h1 (fun q hq => h2 q (h q hq)) h3 ih
structure Ready (don st : List Pt) : Prop where
  chn : Chn (· ∈ don) st
  mem : ∀ x ∈ st, x ∈ don
  last : ∀ t, st.getLast? = some t → ∀ q ∈ don, q = t ∨ before t q = true
  top : ∀ t, st.head? = some t → ∀ q ∈ don, q = t ∨ before q t = true
end Go.Hull
end
section
set_option linter.unusedVariables false
namespace Go.Hull

structure Ch (D : Pt → Prop) (A : Nat → Pt) (x : Nat) : Prop where
  up : ∀ i, i < x → before (A i) (A (i + 1)) = true
  edge : ∀ i, i < x → ∀ q, D q → 0 ≤ left (A i) (A (i + 1)) q
  turns : ∀ i, i + 1 < x → 0 < left (A i) (A (i + 1)) (A (i + 2))
  mem : ∀ i, i ≤ x → D (A i)
  first : ∀ q, D q → q = A 0 ∨ before (A 0) q = true
  last : ∀ q, D q → q = A x ∨ before q (A x) = true
theorem Ch.lt {D : Pt → Prop} {A : Nat → Pt} {x : Nat} (h : Ch D A x) {i : Nat} : ∀ {k : Nat}, i < k → k ≤ x → before (A i) (A k) = true := by
  intro k
  induction k with
  | zero => intro h1; omega
  | succ k ih =>
    intro h1 h2
    by_cases hk : i = k
    · subst hk; exact h.up i (by omega)
    · exact before_trans (ih (by omega) (by omega)) (h.up k (by omega))
theorem Chn.ix {D : Pt → Prop} {st : List Pt} (h : Chn D st) : (∀ i, i + 1 < st.length → before (st.getD (st.length - 1 - i) (0, 0)) (st.getD (st.length - 1 - (i + 1)) (0, 0)) = true ∧ ∀ q, D q → 0 ≤ left (st.getD (st.length - 1 - i) (0, 0)) (st.getD (st.length - 1 - (i + 1)) (0, 0)) q) ∧
    (∀ i, i + 2 < st.length → 0 < left (st.getD (st.length - 1 - i) (0, 0)) (st.getD (st.length - 1 - (i + 1)) (0, 0)) (st.getD (st.length - 1 - (i + 2)) (0, 0))) := by
  induction h with
  | one p => exact ⟨fun i hi => by simp at hi, fun i hi => by simp at hi⟩
  | @two a b h1 h2 =>
    refine ⟨fun i hi => ?_, fun i hi => by simp only [List.length_cons, List.length_nil] at hi; omega⟩
    simp only [List.length_cons, List.length_nil] at hi
    obtain rfl : i = 0 := by omega
    exact ⟨h1, h2⟩
  | @more a b c r h1 h2 h3 h4 ih =>
    simp only [List.length_cons] at ih ⊢
    obtain ⟨i1, i2⟩ := ih
    have sh : ∀ i, i < r.length + 1 + 1 → (c :: b :: a :: r).getD (r.length + 1 + 1 + 1 - 1 - i) (0, 0) = (b :: a :: r).getD (r.length + 1 + 1 - 1 - i) (0, 0) := by
      intro i hi
      rw [show r.length + 1 + 1 + 1 - 1 - i = (r.length + 1 + 1 - 1 - i) + 1 by omega]
      simp
    have tp : (c :: b :: a :: r).getD (r.length + 1 + 1 + 1 - 1 - (r.length + 1 + 1)) (0, 0) = c := by
      rw [show r.length + 1 + 1 + 1 - 1 - (r.length + 1 + 1) = 0 by omega]; rfl
    have tb : (b :: a :: r).getD (r.length + 1 + 1 - 1 - (r.length + 1)) (0, 0) = b := by
      rw [show r.length + 1 + 1 - 1 - (r.length + 1) = 0 by omega]; rfl
    have ta : (b :: a :: r).getD (r.length + 1 + 1 - 1 - r.length) (0, 0) = a := by
      rw [show r.length + 1 + 1 - 1 - r.length = 1 by omega]; rfl
    refine ⟨fun i hi => ?_, fun i hi => ?_⟩
    · by_cases hk : i = r.length + 1
      · subst hk
        rw [sh _ (by omega), tb, tp]
        exact ⟨h1, h2⟩
      · rw [sh _ (by omega), sh _ (by omega)]
        exact i1 i (by omega)
    · by_cases hk : i = r.length
      · subst hk
        rw [sh _ (by omega), sh _ (by omega), tp, ta, tb]
        exact h3
      · rw [sh _ (by omega), sh _ (by omega), sh _ (by omega)]
        exact i2 i (by omega)
theorem Ready.ch {ps st : List Pt} (h : Ready ps st) : Ch (· ∈ ps) (fun i => st.getD (st.length - 1 - i) (0, 0)) (st.length - 1) := by
  have hne : 0 < st.length := by
    cases st with
    | nil => have := h.chn; cases this
    | cons a r => simp
  obtain ⟨i1, i2⟩ := h.chn.ix
  have gm : ∀ k, k < st.length → st.getD k (0, 0) ∈ st := fun k hk => by rw [List.getD_eq_getElem?_getD, List.getElem?_eq_getElem hk]; simp
  refine ⟨fun i hi => (i1 i (by omega)).1, fun i hi => (i1 i (by omega)).2, fun i hi => i2 i (by omega), fun i hi => h.mem _ (gm _ (by omega)), fun q hq => ?_, fun q hq => ?_⟩
  · refine h.last _ ?_ q hq
    simp only [Nat.sub_zero]
    rw [List.getLast?_eq_getElem?, List.getD_eq_getElem?_getD, List.getElem?_eq_getElem (by omega)]
    simp
  · refine h.top _ ?_ q hq
    simp only [Nat.sub_self]
    cases st with
    | nil => simp at hne
    | cons a r => rfl
def neg (p : Pt) : Pt := (-p.1, -p.2)
theorem neg_neg' (p : Pt) : neg (neg p) = p := by simp [neg]
theorem left_neg (a b c : Pt) : left (neg a) (neg b) (neg c) = left a b c := by simp only [left, turn, sub, neg]; grind
theorem before_neg (a b : Pt) : before (neg a) (neg b) = before b a := by
  have : ∀ x y : Bool, (x = true ↔ y = true) → x = y := by decide
  apply this
  rw [before_iff, before_iff]
  simp only [Lp, sub, neg]; omega
/-- The lower chain A, the upper chain B (taken from the greatest point on), and all points D. -/
structure Two (D : Pt → Prop) (A B : Nat → Pt) (x y : Nat) : Prop where
  lo : Ch D A x
  hi : Ch (fun q => D (neg q)) (fun i => neg (B i)) y
  x1 : 0 < x
  y1 : 0 < y
variable {D : Pt → Prop} {A B : Nat → Pt} {x y : Nat}

theorem Two.memB (h : Two D A B x y) {j : Nat} (hj : j ≤ y) : D (B j) := by have := h.hi.mem j hj; simpa only [neg_neg'] using this
theorem Two.edgeB (h : Two D A B x y) {j : Nat} (hj : j < y) {q : Pt} (hq : D q) : 0 ≤ left (B j) (B (j + 1)) q := by
  have := h.hi.edge j hj (neg q) (by simpa only [neg_neg'] using hq)
  simpa only [left_neg] using this
theorem Two.ltB (h : Two D A B x y) {i j : Nat} (hij : i < j) (hj : j ≤ y) : before (B j) (B i) = true := by
  have := h.hi.lt hij hj
  simpa only [before_neg] using this
theorem Two.join1 (h : Two D A B x y) : A x = B 0 := by
  rcases h.lo.last _ (h.memB (Nat.zero_le _)) with e | e
  · exact e.symm
  · rcases h.hi.first (neg (A x)) (by simpa only [neg_neg'] using h.lo.mem x (Nat.le_refl _)) with e' | e'
    · have := congrArg neg e'; simpa only [neg_neg'] using this
    · rw [before_neg] at e'; rw [before_asymm e] at e'; cases e'
theorem Two.join2 (h : Two D A B x y) : B y = A 0 := by
  rcases h.lo.first _ (h.memB (Nat.le_refl _)) with e | e
  · exact e
  · rcases h.hi.last (neg (A 0)) (by simpa only [neg_neg'] using h.lo.mem 0 (Nat.zero_le _)) with e' | e'
    · have := congrArg neg e'; simpa only [neg_neg'] using this.symm
    · rw [before_neg] at e'; rw [before_asymm e] at e'; cases e'
end Go.Hull
end
section
set_option linter.unusedVariables false
namespace Go.Hull

variable {D : Pt → Prop} {A B V : Nat → Pt} {x y : Nat}

theorem Two.vA (h : Two D A B x y) (hA : ∀ i, i < x → V i = A i) (hB : ∀ j, j < y → V (x + j) = B j) {i : Nat} (hi : i ≤ x) : V (i % (x + y)) = A i := by
  have y1 := h.y1
  rw [Nat.mod_eq_of_lt (by omega)]
  by_cases hx : i = x
  · subst hx; rw [h.join1]; exact hB 0 y1
  · exact hA i (by omega)
theorem Two.vB (h : Two D A B x y) (hA : ∀ i, i < x → V i = A i) (hB : ∀ j, j < y → V (x + j) = B j) {j : Nat} (hj : j ≤ y) : V ((x + j) % (x + y)) = B j := by
  have x1 := h.x1
  by_cases hy : j = y
  · subst hy; rw [Nat.mod_self, h.join2]; exact hA 0 x1
  · rw [Nat.mod_eq_of_lt (by omega)]; exact hB j (by omega)
theorem Two.edges (h : Two D A B x y) (hA : ∀ i, i < x → V i = A i) (hB : ∀ j, j < y → V (x + j) = B j) {i : Nat} (hi : i < x + y) {q : Pt} (hq : D q) : 0 ≤ left (V i) (V ((i + 1) % (x + y))) q := by
  by_cases hx : i < x
  · rw [hA i hx, h.vA hA hB (by omega)]
    exact h.lo.edge i hx q hq
  · obtain ⟨j, rfl⟩ : ∃ j, i = x + j := ⟨i - x, by omega⟩
    rw [hB j (by omega), show x + j + 1 = x + (j + 1) by omega, h.vB hA hB (by omega)]
    exact h.edgeB (by omega) hq
end Go.Hull
end
section
set_option linter.unusedSimpArgs false
set_option linter.unusedVariables false
set_option maxHeartbeats 2000000
namespace Go.Hull
open Go Go.Am Go.Proofs

def ixV (v : List Nat) : AV := .sv false 1 (ix v)
theorem flat_ixV (v : List Nat) (i : Nat) : flatN true (i + 3) (ixV v) = true := by
  unfold ixV
  simp only [flatN]
  induction v with
  | nil => rfl
  | cons n v ih => exact ih
theorem lt_ixV (m : Nat) (v : List Nat) : (ixV v).lt m = true := by simp only [ixV, AV.lt, ltL_ix]
end Go.Hull
end
section
namespace Go.Hull.Aw
open Go Go.Am Go.Proofs

def nm (f : Nat) : Bool := natIn f [87, 104, 114, 127, 84, 64, 99, 67, 93, 109, 116]
def tb : AV := .sv false 2 [.agg [.int .i64 0, .int .i64 0], .agg [.int .i64 4, .int .i64 0], .agg [.int .i64 2, .int .i64 1], .agg [.int .i64 4, .int .i64 4], .agg [.int .i64 0, .int .i64 4], .agg [.int .i64 2, .int .i64 0]]
def ms0 : List Memo := []
theorem ok0 : MemoOk Try.prog ms0 := memoOk_nil
theorem x_check : CallsF Try.prog 50 [tb] [] (.int .i64 0) [] := xFm_sound hm tOk ok0 20 _ _ _ _ _ (by kernel_rfl : xFm nm T ms0 1000 20 50 [tb] [] = some (.int .i64 0, []))
def ms1 : List Memo := ⟨50, [tb], .int .i64 0, []⟩ :: ms0
theorem ok1 : MemoOk Try.prog ms1 := memoOk_cons x_check ok0
theorem x_order : CallsF Try.prog 83 [tb] [] (.tup [.sl 0 0 0 6, .int .i64 0]) [.row false 0 false 1 [.int .i64 0, .int .i64 4, .int .i64 5, .int .i64 2, .int .i64 1, .int .i64 3]] := xFm_sound hm tOk ok1 20 _ _ _ _ _ (by kernel_rfl : xFm nm T ms1 1000 20 83 [tb] [] = some (.tup [.sl 0 0 0 6, .int .i64 0], [.row false 0 false 1 [.int .i64 0, .int .i64 4, .int .i64 5, .int .i64 2, .int .i64 1, .int .i64 3]]))
def ms2 : List Memo := ⟨83, [tb], .tup [.sl 0 0 0 6, .int .i64 0], [.row false 0 false 1 [.int .i64 0, .int .i64 4, .int .i64 5, .int .i64 2, .int .i64 1, .int .i64 3]]⟩ :: ms1
theorem ok2 : MemoOk Try.prog ms2 := memoOk_cons x_order ok1
theorem x_around : CallsF Try.prog 51 [tb] [] (.sl 0 0 0 4) [.row false 0 false 1 [.int .i64 0, .int .i64 1, .int .i64 3, .int .i64 4]] := xFm_sound hm tOk ok2 20 _ _ _ _ _ (by kernel_rfl : xFm nm T ms2 1000 20 51 [tb] [] = some (.sl 0 0 0 4, [.row false 0 false 1 [.int .i64 0, .int .i64 1, .int .i64 3, .int .i64 4]]))
def ms3 : List Memo := ⟨51, [tb], .sl 0 0 0 4, [.row false 0 false 1 [.int .i64 0, .int .i64 1, .int .i64 3, .int .i64 4]]⟩ :: ms2
theorem ok3 : MemoOk Try.prog ms3 := memoOk_cons x_around ok2
theorem x_hull : CallsF Try.prog 13 [tb] [] (.tup [.sl 0 0 0 4, .int .i64 0]) [.row false 0 false 1 [.int .i64 0, .int .i64 1, .int .i64 3, .int .i64 4]] := xFm_sound hm tOk ok3 20 _ _ _ _ _ (by kernel_rfl : xFm nm T ms3 1000 20 13 [tb] [] = some (.tup [.sl 0 0 0 4, .int .i64 0], [.row false 0 false 1 [.int .i64 0, .int .i64 1, .int .i64 3, .int .i64 4]]))
def ms4 : List Memo := ⟨13, [tb], .tup [.sl 0 0 0 4, .int .i64 0], [.row false 0 false 1 [.int .i64 0, .int .i64 1, .int .i64 3, .int .i64 4]]⟩ :: ms3
theorem ok4 : MemoOk Try.prog ms4 := memoOk_cons x_hull ok3
theorem x_in : CallsF Try.prog 15 [tb, .agg [.int .i64 2, .int .i64 1]] [] (.tup [.int .i64 1, .int .i64 0]) [] := xFm_sound hm tOk ok4 20 _ _ _ _ _ (by kernel_rfl : xFm nm T ms4 1000 20 15 [tb, .agg [.int .i64 2, .int .i64 1]] [] = some (.tup [.int .i64 1, .int .i64 0], []))
def ms5 : List Memo := ⟨15, [tb, .agg [.int .i64 2, .int .i64 1]], .tup [.int .i64 1, .int .i64 0], []⟩ :: ms4
theorem ok5 : MemoOk Try.prog ms5 := memoOk_cons x_in ok4
theorem x_on : CallsF Try.prog 15 [tb, .agg [.int .i64 2, .int .i64 0]] [] (.tup [.int .i64 0, .int .i64 0]) [] := xFm_sound hm tOk ok5 20 _ _ _ _ _ (by kernel_rfl : xFm nm T ms5 1000 20 15 [tb, .agg [.int .i64 2, .int .i64 0]] [] = some (.tup [.int .i64 0, .int .i64 0], []))
def ms6 : List Memo := ⟨15, [tb, .agg [.int .i64 2, .int .i64 0]], .tup [.int .i64 0, .int .i64 0], []⟩ :: ms5
theorem ok6 : MemoOk Try.prog ms6 := memoOk_cons x_on ok5
theorem x_ext : CallsF Try.prog 17 [tb, .agg [.int .i64 1, .int .i64 0]] [] (.tup [.sl 0 0 0 2, .int .i64 0]) [.row false 0 false 1 [.int .i64 1, .int .i64 3]] := xFm_sound hm tOk ok6 20 _ _ _ _ _ (by kernel_rfl : xFm nm T ms6 1000 20 17 [tb, .agg [.int .i64 1, .int .i64 0]] [] = some (.tup [.sl 0 0 0 2, .int .i64 0], [.row false 0 false 1 [.int .i64 1, .int .i64 3]]))
def ms7 : List Memo := ⟨17, [tb, .agg [.int .i64 1, .int .i64 0]], .tup [.sl 0 0 0 2, .int .i64 0], [.row false 0 false 1 [.int .i64 1, .int .i64 3]]⟩ :: ms6
theorem ok7 : MemoOk Try.prog ms7 := memoOk_cons x_ext ok6
theorem x_opp01 : CallsF Try.prog 65 [.sv false 2 [.agg [.int .i64 0, .int .i64 0], .agg [.int .i64 4, .int .i64 0], .agg [.int .i64 4, .int .i64 4], .agg [.int .i64 0, .int .i64 4]], .agg [.int .i64 0, .int .i64 0], .agg [.int .i64 4, .int .i64 0]] [] (.bool true) [] := xFm_sound hm tOk ok7 20 _ _ _ _ _ (by kernel_rfl : xFm nm T ms7 1000 20 65 [.sv false 2 [.agg [.int .i64 0, .int .i64 0], .agg [.int .i64 4, .int .i64 0], .agg [.int .i64 4, .int .i64 4], .agg [.int .i64 0, .int .i64 4]], .agg [.int .i64 0, .int .i64 0], .agg [.int .i64 4, .int .i64 0]] [] = some (.bool true, []))
def ms8 : List Memo := ⟨65, [.sv false 2 [.agg [.int .i64 0, .int .i64 0], .agg [.int .i64 4, .int .i64 0], .agg [.int .i64 4, .int .i64 4], .agg [.int .i64 0, .int .i64 4]], .agg [.int .i64 0, .int .i64 0], .agg [.int .i64 4, .int .i64 0]], .bool true, []⟩ :: ms7
theorem ok8 : MemoOk Try.prog ms8 := memoOk_cons x_opp01 ok7
theorem x_opp02 : CallsF Try.prog 65 [.sv false 2 [.agg [.int .i64 0, .int .i64 0], .agg [.int .i64 4, .int .i64 0], .agg [.int .i64 4, .int .i64 4], .agg [.int .i64 0, .int .i64 4]], .agg [.int .i64 0, .int .i64 0], .agg [.int .i64 4, .int .i64 4]] [] (.bool true) [] := xFm_sound hm tOk ok8 20 _ _ _ _ _ (by kernel_rfl : xFm nm T ms8 1000 20 65 [.sv false 2 [.agg [.int .i64 0, .int .i64 0], .agg [.int .i64 4, .int .i64 0], .agg [.int .i64 4, .int .i64 4], .agg [.int .i64 0, .int .i64 4]], .agg [.int .i64 0, .int .i64 0], .agg [.int .i64 4, .int .i64 4]] [] = some (.bool true, []))
def ms9 : List Memo := ⟨65, [.sv false 2 [.agg [.int .i64 0, .int .i64 0], .agg [.int .i64 4, .int .i64 0], .agg [.int .i64 4, .int .i64 4], .agg [.int .i64 0, .int .i64 4]], .agg [.int .i64 0, .int .i64 0], .agg [.int .i64 4, .int .i64 4]], .bool true, []⟩ :: ms8
theorem ok9 : MemoOk Try.prog ms9 := memoOk_cons x_opp02 ok8
theorem x_opp03 : CallsF Try.prog 65 [.sv false 2 [.agg [.int .i64 0, .int .i64 0], .agg [.int .i64 4, .int .i64 0], .agg [.int .i64 4, .int .i64 4], .agg [.int .i64 0, .int .i64 4]], .agg [.int .i64 0, .int .i64 0], .agg [.int .i64 0, .int .i64 4]] [] (.bool true) [] := xFm_sound hm tOk ok9 20 _ _ _ _ _ (by kernel_rfl : xFm nm T ms9 1000 20 65 [.sv false 2 [.agg [.int .i64 0, .int .i64 0], .agg [.int .i64 4, .int .i64 0], .agg [.int .i64 4, .int .i64 4], .agg [.int .i64 0, .int .i64 4]], .agg [.int .i64 0, .int .i64 0], .agg [.int .i64 0, .int .i64 4]] [] = some (.bool true, []))
def ms10 : List Memo := ⟨65, [.sv false 2 [.agg [.int .i64 0, .int .i64 0], .agg [.int .i64 4, .int .i64 0], .agg [.int .i64 4, .int .i64 4], .agg [.int .i64 0, .int .i64 4]], .agg [.int .i64 0, .int .i64 0], .agg [.int .i64 0, .int .i64 4]], .bool true, []⟩ :: ms9
theorem ok10 : MemoOk Try.prog ms10 := memoOk_cons x_opp03 ok9
theorem x_opp12 : CallsF Try.prog 65 [.sv false 2 [.agg [.int .i64 0, .int .i64 0], .agg [.int .i64 4, .int .i64 0], .agg [.int .i64 4, .int .i64 4], .agg [.int .i64 0, .int .i64 4]], .agg [.int .i64 4, .int .i64 0], .agg [.int .i64 4, .int .i64 4]] [] (.bool true) [] := xFm_sound hm tOk ok10 20 _ _ _ _ _ (by kernel_rfl : xFm nm T ms10 1000 20 65 [.sv false 2 [.agg [.int .i64 0, .int .i64 0], .agg [.int .i64 4, .int .i64 0], .agg [.int .i64 4, .int .i64 4], .agg [.int .i64 0, .int .i64 4]], .agg [.int .i64 4, .int .i64 0], .agg [.int .i64 4, .int .i64 4]] [] = some (.bool true, []))
def ms11 : List Memo := ⟨65, [.sv false 2 [.agg [.int .i64 0, .int .i64 0], .agg [.int .i64 4, .int .i64 0], .agg [.int .i64 4, .int .i64 4], .agg [.int .i64 0, .int .i64 4]], .agg [.int .i64 4, .int .i64 0], .agg [.int .i64 4, .int .i64 4]], .bool true, []⟩ :: ms10
theorem ok11 : MemoOk Try.prog ms11 := memoOk_cons x_opp12 ok10
theorem x_opp13 : CallsF Try.prog 65 [.sv false 2 [.agg [.int .i64 0, .int .i64 0], .agg [.int .i64 4, .int .i64 0], .agg [.int .i64 4, .int .i64 4], .agg [.int .i64 0, .int .i64 4]], .agg [.int .i64 4, .int .i64 0], .agg [.int .i64 0, .int .i64 4]] [] (.bool true) [] := xFm_sound hm tOk ok11 20 _ _ _ _ _ (by kernel_rfl : xFm nm T ms11 1000 20 65 [.sv false 2 [.agg [.int .i64 0, .int .i64 0], .agg [.int .i64 4, .int .i64 0], .agg [.int .i64 4, .int .i64 4], .agg [.int .i64 0, .int .i64 4]], .agg [.int .i64 4, .int .i64 0], .agg [.int .i64 0, .int .i64 4]] [] = some (.bool true, []))
def ms12 : List Memo := ⟨65, [.sv false 2 [.agg [.int .i64 0, .int .i64 0], .agg [.int .i64 4, .int .i64 0], .agg [.int .i64 4, .int .i64 4], .agg [.int .i64 0, .int .i64 4]], .agg [.int .i64 4, .int .i64 0], .agg [.int .i64 0, .int .i64 4]], .bool true, []⟩ :: ms11
theorem ok12 : MemoOk Try.prog ms12 := memoOk_cons x_opp13 ok11
theorem x_opp23 : CallsF Try.prog 65 [.sv false 2 [.agg [.int .i64 0, .int .i64 0], .agg [.int .i64 4, .int .i64 0], .agg [.int .i64 4, .int .i64 4], .agg [.int .i64 0, .int .i64 4]], .agg [.int .i64 4, .int .i64 4], .agg [.int .i64 0, .int .i64 4]] [] (.bool true) [] := xFm_sound hm tOk ok12 20 _ _ _ _ _ (by kernel_rfl : xFm nm T ms12 1000 20 65 [.sv false 2 [.agg [.int .i64 0, .int .i64 0], .agg [.int .i64 4, .int .i64 0], .agg [.int .i64 4, .int .i64 4], .agg [.int .i64 0, .int .i64 4]], .agg [.int .i64 4, .int .i64 4], .agg [.int .i64 0, .int .i64 4]] [] = some (.bool true, []))
def ms13 : List Memo := ⟨65, [.sv false 2 [.agg [.int .i64 0, .int .i64 0], .agg [.int .i64 4, .int .i64 0], .agg [.int .i64 4, .int .i64 4], .agg [.int .i64 0, .int .i64 4]], .agg [.int .i64 4, .int .i64 4], .agg [.int .i64 0, .int .i64 4]], .bool true, []⟩ :: ms12
theorem ok13 : MemoOk Try.prog ms13 := memoOk_cons x_opp23 ok12
theorem x_sorted : CallsF Try.prog 63 [.clo 94 [.rp true [.sv false 1 [.int .i64 0, .int .i64 1, .int .i64 3, .int .i64 4]]]] [] (.sl 0 0 0 4) [.row false 0 false 1 [.int .i64 0, .int .i64 1, .int .i64 3, .int .i64 4]] := xFm_sound hm tOk ok13 20 _ _ _ _ _ (by kernel_rfl : xFm nm T ms13 1000 20 63 [.clo 94 [.rp true [.sv false 1 [.int .i64 0, .int .i64 1, .int .i64 3, .int .i64 4]]]] [] = some (.sl 0 0 0 4, [.row false 0 false 1 [.int .i64 0, .int .i64 1, .int .i64 3, .int .i64 4]]))
def ms14 : List Memo := ⟨63, [.clo 94 [.rp true [.sv false 1 [.int .i64 0, .int .i64 1, .int .i64 3, .int .i64 4]]]], .sl 0 0 0 4, [.row false 0 false 1 [.int .i64 0, .int .i64 1, .int .i64 3, .int .i64 4]]⟩ :: ms13
theorem ok14 : MemoOk Try.prog ms14 := memoOk_cons x_sorted ok13
theorem x_anti : CallsF Try.prog 20 [tb] [] (.tup [.sl 0 0 0 6, .int .i64 0]) [.row false 0 false 2 [.agg [.int .i64 0, .int .i64 1], .agg [.int .i64 0, .int .i64 3], .agg [.int .i64 0, .int .i64 4], .agg [.int .i64 1, .int .i64 3], .agg [.int .i64 1, .int .i64 4], .agg [.int .i64 3, .int .i64 4]]] := xFm_sound hm tOk ok14 20 _ _ _ _ _ (by kernel_rfl : xFm nm T ms14 1000 20 20 [tb] [] = some (.tup [.sl 0 0 0 6, .int .i64 0], [.row false 0 false 2 [.agg [.int .i64 0, .int .i64 1], .agg [.int .i64 0, .int .i64 3], .agg [.int .i64 0, .int .i64 4], .agg [.int .i64 1, .int .i64 3], .agg [.int .i64 1, .int .i64 4], .agg [.int .i64 3, .int .i64 4]]]))
def ms15 : List Memo := ⟨20, [tb], .tup [.sl 0 0 0 6, .int .i64 0], [.row false 0 false 2 [.agg [.int .i64 0, .int .i64 1], .agg [.int .i64 0, .int .i64 3], .agg [.int .i64 0, .int .i64 4], .agg [.int .i64 1, .int .i64 3], .agg [.int .i64 1, .int .i64 4], .agg [.int .i64 3, .int .i64 4]]]⟩ :: ms14
theorem ok15 : MemoOk Try.prog ms15 := memoOk_cons x_anti ok14
theorem x_far : CallsF Try.prog 44 [tb] [] (.tup [.int .i64 32, .agg [.int .i64 0, .int .i64 3], .int .i64 0]) [] := xFm_sound hm tOk ok15 20 _ _ _ _ _ (by kernel_rfl : xFm nm T ms15 1000 20 44 [tb] [] = some (.tup [.int .i64 32, .agg [.int .i64 0, .int .i64 3], .int .i64 0], []))
def ms16 : List Memo := ⟨44, [tb], .tup [.int .i64 32, .agg [.int .i64 0, .int .i64 3], .int .i64 0], []⟩ :: ms15
theorem ok16 : MemoOk Try.prog ms16 := memoOk_cons x_far ok15
theorem x_sep : CallsF Try.prog 23 [.sv false 2 [.agg [.int .i64 0, .int .i64 0], .agg [.int .i64 0, .int .i64 5]], .sv false 2 [.agg [.int .i64 1, .int .i64 0]]] [] (.tup [.bool true, .agg [.int .i64 1, .int .i64 0], .int .i64 0, .int .i64 0]) [] := xFm_sound hm tOk ok16 20 _ _ _ _ _ (by kernel_rfl : xFm nm T ms16 1000 20 23 [.sv false 2 [.agg [.int .i64 0, .int .i64 0], .agg [.int .i64 0, .int .i64 5]], .sv false 2 [.agg [.int .i64 1, .int .i64 0]]] [] = some (.tup [.bool true, .agg [.int .i64 1, .int .i64 0], .int .i64 0, .int .i64 0], []))
def ms17 : List Memo := ⟨23, [.sv false 2 [.agg [.int .i64 0, .int .i64 0], .agg [.int .i64 0, .int .i64 5]], .sv false 2 [.agg [.int .i64 1, .int .i64 0]]], .tup [.bool true, .agg [.int .i64 1, .int .i64 0], .int .i64 0, .int .i64 0], []⟩ :: ms16
theorem ok17 : MemoOk Try.prog ms17 := memoOk_cons x_sep ok16
theorem x_awake : CallsF Try.prog 12 [] [] (.bool true) [] := xFm_sound hm tOk ok17 20 _ _ _ _ _ (by kernel_rfl : xFm nm T ms17 1000 20 12 [] [] = some (.bool true, []))
end Go.Hull.Aw
end
section
set_option linter.unusedSimpArgs false
set_option linter.unusedVariables false
set_option maxHeartbeats 4000000
namespace Go.Hull
open Go Go.Am Go.Proofs

def P (l : List Pt) (i : Nat) : Pt := l.getD i (0, 0)
structure HullT (l : List Pt) (v : List Nat) : Prop where
  ne : 0 < v.length
  le : v.length ≤ l.length
  mem : ∀ x ∈ v, x < l.length
  first : ∀ p ∈ l, before p (P l (v.getD 0 0)) = false
  big : 2 < v.length → ∀ i, i < v.length → ∀ p ∈ l, 0 ≤ left (P l (v.getD i 0)) (P l (v.getD ((i + 1) % v.length) 0)) p
  turns : 2 < v.length → ∀ i, i < v.length → 0 < left (P l (v.getD i 0)) (P l (v.getD ((i + 1) % v.length) 0)) (P l (v.getD ((i + 2) % v.length) 0))
  two : v.length = 2 → ∀ i, i < 2 → ∀ p ∈ l, left (P l (v.getD i 0)) (P l (v.getD ((i + 1) % v.length) 0)) p = 0
  two' : v.length = 2 → ∀ p ∈ l, before (P l (v.getD 1 0)) p = false
  one : v.length = 1 → ∀ p ∈ l, p = P l (v.getD 0 0)
end Go.Hull
end
section
set_option linter.unusedVariables false
namespace Go.Hull

theorem getD_map_P (l : List Pt) (s : List Nat) {i : Nat} (hi : i < s.length) : (s.map (P l)).getD i (0, 0) = P l (s.getD i 0) := by
  simp [List.getD_eq_getElem?_getD, List.getElem?_eq_getElem hi]
theorem Ch.congr {D D' : Pt → Prop} {A A' : Nat → Pt} {x x' : Nat} (h : Ch D A x) (hD : ∀ q, D' q ↔ D q) (hA : ∀ i, A' i = A i) (hx : x' = x) : Ch D' A' x' := by
  have e1 : D' = D := funext fun q => propext (hD q)
  have e2 : A' = A := funext hA
  rw [e1, e2, hx]; exact h
theorem Ch.pos {D : Pt → Prop} {A : Nat → Pt} {x : Nat} (h : Ch D A x) {p q : Pt} (hp : D p) (hq : D q) (hpq : before p q = true) : 0 < x := by
  cases x with
  | succ x => omega
  | zero =>
    have e : ∀ q, D q → q = A 0 := fun q hq => by
      rcases h.first q hq with e | e
      · exact e
      · rcases h.last q hq with e' | e'
        · exact e'
        · rw [before_asymm e] at e'; cases e'
    rw [e p hp, e q hq, before_irrefl] at hpq
    cases hpq
end Go.Hull
end
section
set_option linter.unusedVariables false
namespace Go.Hull

def dot (u v : Pt) : Int := u.1 * v.1 + u.2 * v.2
structure HullV (l : List Pt) (v : List Nat) : Prop where
  T : HullT l v
  nd : (v.map (P l)).Nodup
  fst : ∀ i ∈ v, ∀ k, k < i → P l k ≠ P l i
theorem P_mem {l : List Pt} {i : Nat} (h : i < l.length) : P l i ∈ l := by
  unfold P; rw [List.getD_eq_getElem?_getD, List.getElem?_eq_getElem h]; simp
theorem HullV.inj {l : List Pt} {v : List Nat} (h : HullV l v) {i k : Nat} (hi : i < v.length) (hk : k < v.length) (e : P l (v.getD i 0) = P l (v.getD k 0)) : i = k := by
  have hn := h.nd
  rw [List.nodup_iff_pairwise_ne, List.pairwise_iff_getElem] at hn
  have g : ∀ (i k : Nat) (hi : i < v.length) (hk : k < v.length), i < k → P l (v.getD i 0) ≠ P l (v.getD k 0) := fun i k hi hk hik => by
    have := hn i k (by simpa using hi) (by simpa using hk) hik
    simpa [List.getD_eq_getElem?_getD, List.getElem?_eq_getElem hi, List.getElem?_eq_getElem hk] using this
  rcases Nat.lt_trichotomy i k with h1 | h1 | h1
  · exact absurd e (g i k hi hk h1)
  · exact h1
  · exact absurd e.symm (g k i hk hi h1)
theorem sub_zero {p q : Pt} : sub p q = (0, 0) → p = q := fun h => by
  simp only [sub, Prod.mk.injEq] at h
  exact Prod.ext (by omega) (by omega)
end Go.Hull
end
section
set_option linter.unusedVariables false
namespace Go.Hull

/-- Moved points. -/
def addP (d p : Pt) : Pt := (p.1 + d.1, p.2 + d.2)
theorem left_add (d a b c : Pt) : left (addP d a) (addP d b) (addP d c) = left a b c := by simp only [left, turn, sub, addP]; grind
theorem before_add (d a b : Pt) : before (addP d a) (addP d b) = before a b := by
  have : ∀ x y : Bool, (x = true ↔ y = true) → x = y := by decide
  apply this
  rw [before_iff, before_iff]
  simp only [Lp, sub, addP]; omega
theorem addP_inj {d a b : Pt} (h : addP d a = addP d b) : a = b := by
  simp only [addP, Prod.mk.injEq] at h
  exact Prod.ext (by omega) (by omega)
theorem P_add (d : Pt) (l : List Pt) {i : Nat} (hi : i < l.length) : P (l.map (addP d)) i = addP d (P l i) := by
  simp [P, List.getD_eq_getElem?_getD, List.getElem?_eq_getElem hi]
theorem HullV.moved {l : List Pt} {v : List Nat} (h : HullV l v) (d : Pt) : HullV (l.map (addP d)) v := by
  have T := h.T
  have e : ∀ i, i < v.length → P (l.map (addP d)) (v.getD i 0) = addP d (P l (v.getD i 0)) := fun i hi => P_add d l (getD_lt T.mem hi)
  have md : ∀ k, k % v.length < v.length := fun k => Nat.mod_lt _ T.ne
  have pm : ∀ {Q : Pt → Prop}, (∀ p ∈ l, Q (addP d p)) → ∀ p ∈ l.map (addP d), Q p := fun {Q} hq p hp => by
    obtain ⟨a, ha, rfl⟩ := List.mem_map.1 hp
    exact hq a ha
  refine ⟨⟨T.ne, by rw [List.length_map]; exact T.le, fun x hx => by rw [List.length_map]; exact T.mem x hx, pm fun p hp => ?_, fun h2 i hi => pm fun p hp => ?_, fun h2 i hi => ?_, fun h2 i hi => pm fun p hp => ?_, fun h2 => pm fun p hp => ?_, fun h1 => pm fun p hp => ?_⟩, ?_, fun i hi k hk hh => ?_⟩
  · rw [e 0 T.ne, before_add]; exact T.first p hp
  · rw [e i hi, e _ (md _), left_add]; exact T.big h2 i hi p hp
  · rw [e i hi, e _ (md _), e _ (md _), left_add]; exact T.turns h2 i hi
  · rw [e i (by omega), e _ (md _), left_add]; exact T.two h2 i hi p hp
  · rw [e 1 (by omega), before_add]; exact T.two' h2 p hp
  · rw [e 0 (by omega), T.one h1 p hp]
  · have : v.map (P (l.map (addP d))) = (v.map (P l)).map (addP d) := by
      rw [List.map_map]
      exact List.map_congr_left fun x hx => P_add d l (T.mem x hx)
    rw [this, List.nodup_iff_pairwise_ne, List.pairwise_map]
    exact (List.nodup_iff_pairwise_ne.1 h.nd).imp fun {a b} hab hh => hab (addP_inj hh)
  · have hil := T.mem i hi
    rw [P_add d l hil, P_add d l (by omega)] at hh
    exact h.fst i hi k hk (addP_inj hh)
theorem getD_range {n i : Nat} (h : i < n) : (List.range n).getD i 0 = i := by
  rw [List.getD_eq_getElem?_getD, List.getElem?_range h]; rfl
theorem HullV.alone {l : List Pt} {v : List Nat} (h : HullV l v) : HullV (v.map (P l)) (List.range v.length) := by
  have T := h.T
  have al : (v.map (P l)).length = v.length := List.length_map ..
  have e : ∀ i, i < v.length → P (v.map (P l)) ((List.range v.length).getD i 0) = P l (v.getD i 0) := fun i hi => by
    rw [getD_range hi]; exact getD_map_P l v hi
  have md : ∀ k, k % v.length < v.length := fun k => Nat.mod_lt _ T.ne
  have pm : ∀ p ∈ v.map (P l), p ∈ l := fun p hp => by
    obtain ⟨a, ha, rfl⟩ := List.mem_map.1 hp
    exact P_mem (T.mem a ha)
  have rl : (List.range v.length).length = v.length := List.length_range
  refine ⟨⟨by rw [rl]; exact T.ne, by rw [rl, al]; exact Nat.le_refl _, fun x hx => by rw [al]; exact List.mem_range.1 hx, fun p hp => ?_, fun h2 i hi p hp => ?_, fun h2 i hi => ?_, fun h2 i hi p hp => ?_, fun h2 p hp => ?_, fun h1 p hp => ?_⟩, ?_, fun i hi k hk hh => ?_⟩
  · rw [e 0 T.ne]; exact T.first p (pm p hp)
  · rw [rl] at h2 hi ⊢; rw [e i hi, e _ (md _)]; exact T.big h2 i hi p (pm p hp)
  · rw [rl] at h2 hi ⊢; rw [e i hi, e _ (md _), e _ (md _)]; exact T.turns h2 i hi
  · rw [rl] at h2 ⊢; rw [e i (by omega), e _ (md _)]; exact T.two h2 i hi p (pm p hp)
  · rw [rl] at h2; rw [e 1 (by omega)]; exact T.two' h2 p (pm p hp)
  · rw [rl] at h1; rw [e 0 (by omega)]; exact T.one h1 p (pm p hp)
  · have : (List.range v.length).map (P (v.map (P l))) = v.map (P l) := by
      refine List.ext_getElem (by simp) fun i h1 h2 => ?_
      have hi : i < v.length := by simpa using h2
      have := getD_map_P l v hi
      simp only [List.getElem_map, List.getElem_range]
      have gv : v.getD i 0 = v[i] := by rw [List.getD_eq_getElem?_getD, List.getElem?_eq_getElem hi]; rfl
      rw [gv] at this
      exact this
    rw [this]; exact h.nd
  · have hi' := List.mem_range.1 hi
    have e1 := e i hi'
    have e2 := e k (by omega)
    rw [getD_range hi'] at e1
    rw [getD_range (by omega)] at e2
    rw [e1, e2] at hh
    have := h.inj (i := k) (k := i) (by omega) hi' hh
    omega
end Go.Hull
end
section
set_option linter.unusedSimpArgs false
set_option linter.unusedVariables false
set_option maxHeartbeats 2000000
namespace Go.Hull
open Go Go.Am Go.Proofs

theorem viewG_pts {hl : List Blk} {b g i k : Nat} {nil frz : Bool} {xs : List Pt} (hb : hget hl b = .row nil g frz 2 (xs.map pt)) (h : i + k ≤ xs.length) : viewG hl 6 (.sl b g i k) = some (pts ((xs.drop i).take k), [b]) := by
  have he : ((xs.map pt).drop i).take k = ((xs.drop i).take k).map pt := by rw [List.map_take, List.map_drop]
  have h1 : optL (viewG hl 5) (((xs.drop i).take k).map pt) = some ((((xs.drop i).take k).map pt).map fun x => (x, [])) := optL_self _ fun x hx => by
    obtain ⟨n, -, rfl⟩ := List.mem_map.1 hx
    exact viewG_flat rfl 4
  have h2 : (((((xs.drop i).take k).map pt).map fun x => (x, ([] : List Nat))).all fun y => Nat.beq y.1.cells.length 2) = true := by
    rw [List.all_eq_true]
    intro y hy
    obtain ⟨x, hx, rfl⟩ := List.mem_map.1 hy
    obtain ⟨n, -, rfl⟩ := List.mem_map.1 hx
    rfl
  have hc : True ∧ i + k ≤ (xs.map pt).length := ⟨trivial, by rw [List.length_map]; exact h⟩
  unfold viewG
  simp only [flatN, AV.lt, Nat.not_lt_zero, decide_false, Bool.false_eq_true, if_false, hb]
  rw [if_pos hc]
  simp only [he, h1, h2, if_true, catT_nil]
  simp only [List.map_map, Function.comp_def, pts]
theorem clean_pts (l : List Pt) : cleanL (l.map pt) = true := by
  induction l with
  | nil => rfl
  | cons p l ih => simp only [List.map_cons, cleanL, ih, pt, AV.clean, Bool.and_self]
theorem c56' {u v : Pt} (hu : smallV u) (hv : smallV v) : CallsF Try.prog 56 [pt u, pt v] [] (.int .i64 (dot u v)) [] := by
  obtain ⟨⟨a1, a2⟩, a3, a4⟩ := hu
  obtain ⟨⟨b1, b2⟩, b3, b4⟩ := hv
  have m1 := mul_bd a1 a2 b1 b2
  have m2 := mul_bd a3 a4 b3 b4
  have e1 := wr (u.1 * v.1) (by omega) (by omega)
  have e2 := wr (u.2 * v.2) (by omega) (by omega)
  have e3 := wr (u.1 * v.1 + u.2 * v.2) (by omega) (by omega)
  refine callsF_cwx hm hf56 (by simp [cf56]) ?_
  simp only [cf56, argsAl]
  unfold pt
  refine CWx.r fun K hK => ?_
  simp (maxSteps := 4000000) only [amC, amX, evsA, evpA, elemsA, elemsP, sizedA, optA, refA, consO, Am.get, AV.elem, AV.cells, AV.one, hsetL, hset, hget, loadAV, rowAt?, loadCells', faddrAV, binAV, fillA, storeAV, AV.putCells, AV.ref, List.foldl, List.all, List.map, List.set, List.take, List.drop, Option.getD, Option.map, if_true, if_false, Nat.reduceEqDiff, Nat.reduceAdd, Nat.reduceLT, Nat.reduceLeDiff, reduceCtorEq, ↓reduceIte, pickAV, lenAV, intAV, slcA, slcAV, iaddrAV, extAV, fldAV, eqCells, eqCell, contAV, appendAV, foldAV, maxI, minI, Option.some.injEq, catT, AV.cells, AV.elem, AV.one, List.all_cons, List.all_nil]
  refine hK _ _ _ nofun ?_
  clear hK K
  refine CWx.r fun K hK => ?_
  simp (maxSteps := 4000000) only [amC, amX, evsA, evpA, elemsA, elemsP, sizedA, optA, refA, consO, Am.get, AV.elem, AV.cells, AV.one, hsetL, hset, hget, loadAV, rowAt?, loadCells', faddrAV, binAV, fillA, storeAV, AV.putCells, AV.ref, List.foldl, List.all, List.map, List.set, List.take, List.drop, Option.getD, Option.map, if_true, if_false, Nat.reduceEqDiff, Nat.reduceAdd, Nat.reduceLT, Nat.reduceLeDiff, reduceCtorEq, ↓reduceIte, pickAV, lenAV, intAV, slcA, slcAV, iaddrAV, extAV, fldAV, eqCells, eqCell, contAV, appendAV, foldAV, maxI, minI, Option.some.injEq, catT, AV.cells, e1, e2, e3]
  refine hK _ _ _ nofun ?_
  clear hK K
  exact CWx.ret fun al hal => finK_ext hal (finK_pure (.inr rfl) (xs := [.int .i64 (dot u v)]) (by simp [resRV, Am.get, dot]) rfl rfl)
end Go.Hull
end
section
set_option linter.unusedSimpArgs false
set_option linter.unusedVariables false
namespace Go.Am
open Go Go.RowKit

section
variable {P : Program} {m0 : Nat} {tp : Bool} {K : Exit → St → Prop}

theorem CWx.br {c : Opd} {x y : CCode} {l : List (Nat × AV)} {hl : List Blk} {b : Bool} (hc : evA l c = .bool b) (h1 : b = true → CWx P m0 tp x l hl K) (h2 : b = false → CWx P m0 tp y l hl K) : CWx P m0 tp (.cond c x y) l hl K := by
  cases b with
  | true => exact CWx.condT hc (h1 rfl)
  | false => exact CWx.condF hc (h2 rfl)
theorem gX_split {K : KX} {b w : Bool} {op : AOp} {dst : Option Nat} {bef : Nat} {cs : List COp} {l : List (Nat × AV)} {hl : List Blk} {tr : Tr}
    (h1 : b = true → gX P (.bool true) w op dst bef cs l hl tr K) (h2 : b = false → gX P (.bool false) w op dst bef cs l hl tr K) : gX P (.bool b) w op dst bef cs l hl tr K := by
  cases b with
  | true => exact h1 rfl
  | false => exact h2 rfl
/-- Slots that are kept as they are. -/
def keepA (l : List (Nat × AV)) : List Nat → List (Nat × AV)
  | [] => []
  | k :: ks => (k, get l k) :: keepA l ks
/-- A loop; L: the slots at its head; H: the rows. -/
theorem CWx.loopK {ι : Type} {c : CCode} {l : List (Nat × AV)} {hl : List Blk} (ks : List Nat) (μ : ι → Nat) (f : ι → List (Nat × AV)) (g : ι → List Blk) (Q : ι → Prop) {L : ι → List (Nat × AV)} (hL : ∀ i, f i ++ keepA l ks = L i)
    (i0 : ι) (hq : Q i0) (hs : Fgt m0 ⟨l, hl⟩ ⟨L i0, g i0⟩)
    (h : ∀ i, Q i → CWx P m0 tp c (L i) (g i) (thenK K fun s' => ∃ j, μ j < μ i ∧ Q j ∧ Fgt m0 s' ⟨L j, g j⟩)) : CWx P m0 tp (.loop c) l hl K :=
  CWx.loopF μ (fun i => ⟨L i, g i⟩) Q h i0 hq hs
theorem viewArgs_nil {hl : List Blk} : viewArgs hl [] = some ([], []) := rfl
theorem viewArgs_cons {hl : List Blk} {x y : AV} {xs ys : List AV} {T T' : List Nat} (h1 : viewG hl 6 x = some (y, T)) (h2 : viewArgs hl xs = some (ys, T')) : viewArgs hl (x :: xs) = some (y :: ys, T ++ T') := by
  simp only [viewArgs, h1, h2]
end

theorem wr62 (n : Int) (h : -4611686018427387904 ≤ n ∧ n ≤ 4611686018427387904) : IntKind.i64.wrap n = n := IntWalk.i64_in _ (by omega)
theorem natAdd1 (i : Nat) : (i : Int) + 1 = ((i + 1 : Nat) : Int) := rfl
theorem natAddN (i j : Nat) : (i : Int) + (j : Int) = ((i + j : Nat) : Int) := rfl
theorem natSub1 (i : Nat) (h : 1 ≤ i) : (i : Int) - 1 = ((i - 1 : Nat) : Int) := by omega
theorem natSubN (i j : Nat) (h : j ≤ i) : (i : Int) - (j : Int) = ((i - j : Nat) : Int) := by omega
theorem tmodN (a n : Nat) : Int.tmod (a : Int) (n : Int) = ((a % n : Nat) : Int) := (Int.ofNat_tmod a n).symm
theorem tdivN (a n : Nat) : Int.tdiv (a : Int) (n : Int) = ((a / n : Nat) : Int) := (Int.ofNat_tdiv a n).symm
theorem toNat_cast (n : Nat) : ((n : Int)).toNat = n := Int.toNat_natCast n
theorem appB (n : Nat) : (n ≤ appBound) = (n ≤ 70368744177664) := rfl
end Go.Am
end
section
set_option linter.unusedVariables false
set_option linter.defProp false
namespace Go.Am
open Go

section
variable (k : IntKind) (n m : Int) (b c : Bool) (s : ByteArray) (cs xs : List AV) (q w g i j o sz rsz f : Nat) (v : Bool) (h : Nat → Blk) (hl : List Blk)
theorem cells_agg : (AV.agg cs).cells = cs := rfl
theorem cells_tup : (AV.tup cs).cells = [.tup cs] := rfl
theorem cells_int : (AV.int k n).cells = [.int k n] := rfl
theorem cells_bool : (AV.bool b).cells = [.bool b] := rfl
theorem cells_str : (AV.str s).cells = [.str s] := rfl
theorem cells_nilp : (AV.nilp).cells = [.nilp] := rfl
theorem cells_nilf : (AV.nilf).cells = [.nilf] := rfl
theorem cells_nili : (AV.nili).cells = [.nili] := rfl
theorem cells_nils : (AV.nils).cells = [.nils] := rfl
theorem cells_sv : (AV.sv v sz xs).cells = [.sv v sz xs] := rfl
theorem cells_sl : (AV.sl q g i j).cells = [.sl q g i j] := rfl
theorem cells_ptr : (AV.ptr q g i j).cells = [.ptr q g i j] := rfl
theorem cells_rp : (AV.rp v xs).cells = [.rp v xs] := rfl
theorem cells_clo : (AV.clo f xs).cells = [.clo f xs] := rfl
theorem one_int : (AV.int k n).one = true := rfl
theorem one_bool : (AV.bool b).one = true := rfl
theorem one_str : (AV.str s).one = true := rfl
theorem one_nilp : (AV.nilp).one = true := rfl
theorem one_nilf : (AV.nilf).one = true := rfl
theorem one_nili : (AV.nili).one = true := rfl
theorem one_nils : (AV.nils).one = true := rfl
theorem one_sv : (AV.sv v sz xs).one = true := rfl
theorem one_sl : (AV.sl q g i j).one = true := rfl
theorem one_ptr : (AV.ptr q g i j).one = true := rfl
theorem one_rp : (AV.rp v xs).one = true := rfl
theorem one_clo : (AV.clo f xs).one = true := rfl
theorem elem_agg : (AV.agg cs).elem = cs.all AV.one := rfl
theorem elem_int : (AV.int k n).elem = true := rfl
theorem elem_bool : (AV.bool b).elem = true := rfl
theorem elem_str : (AV.str s).elem = true := rfl
theorem elem_nilp : (AV.nilp).elem = true := rfl
theorem elem_nilf : (AV.nilf).elem = true := rfl
theorem elem_nili : (AV.nili).elem = true := rfl
theorem elem_nils : (AV.nils).elem = true := rfl
theorem elem_sv : (AV.sv v sz xs).elem = true := rfl
theorem elem_sl : (AV.sl q g i j).elem = true := rfl
theorem elem_ptr : (AV.ptr q g i j).elem = true := rfl
theorem elem_rp : (AV.rp v xs).elem = true := rfl
theorem elem_clo : (AV.clo f xs).elem = true := rfl
theorem lenAV_sl : lenAV (.sl q g i j) = some (.int .i64 j) := rfl
theorem lenAV_sv : lenAV (.sv v sz xs) = some (.int .i64 xs.length) := rfl
theorem lenAV_nils : lenAV .nils = some (.int .i64 0) := rfl
theorem ia_sl : iaddrAV h sz n (.sl q g i j) = (match rowAt? h q g with
    | some (_, rsz, _) => if rsz = sz ∧ 0 ≤ n ∧ n < (j : Int) then some (.ptr q g (i + n.toNat) 0) else none
    | none => none) := rfl
theorem ia_sv : iaddrAV h sz n (.sv v rsz xs) = if rsz = sz ∧ 0 ≤ n ∧ n < (xs.length : Int) then (xs[n.toNat]?).map fun e => .rp v e.cells else none := rfl
theorem ld_ptr : loadAV h b sz (.ptr q g i o) = (match rowAt? h q g with
    | some (_, _, xs) => match xs[i]? with
      | some e => loadCells' b sz (e.cells.drop o)
      | none => none
    | none => none) := rfl
theorem ld_rp : loadAV h b sz (.rp v cs) = loadCells' b sz cs := rfl
theorem st_ptr (x : AV) : storeAV h sz x (.ptr q g i o) = (match rowAt? h q g with
    | some (false, rsz, xs) => match xs[i]? with
      | some e => if x.elem = true ∧ x.cells.length = sz ∧ o + sz ≤ rsz then some (q, .row false g false rsz (xs.set i (e.putCells o x.cells))) else none
      | none => none
    | _ => none) := rfl
theorem fa_ptr : faddrAV w (.ptr q g i o) = some (.ptr q g i (o + w)) := rfl
theorem fa_rp : faddrAV w (.rp v cs) = some (.rp v (cs.drop w)) := rfl
theorem put_agg : (AV.agg cs).putCells o xs = .agg (cs.take o ++ xs ++ cs.drop (o + xs.length)) := rfl
theorem put_int (x : AV) : (AV.int k n).putCells o [x] = x := rfl
theorem put_bool (x : AV) : (AV.bool b).putCells o [x] = x := rfl
theorem put_str (x : AV) : (AV.str s).putCells o [x] = x := rfl
theorem put_nilp (x : AV) : (AV.nilp).putCells o [x] = x := rfl
theorem put_nilf (x : AV) : (AV.nilf).putCells o [x] = x := rfl
theorem put_nils (x : AV) : (AV.nils).putCells o [x] = x := rfl
theorem put_sl (x : AV) : (AV.sl q g i j).putCells o [x] = x := rfl
theorem put_sv (x : AV) : (AV.sv v sz xs).putCells o [x] = x := rfl
theorem put_ptr (x : AV) : (AV.ptr q g i j).putCells o [x] = x := rfl
theorem put_rp (x : AV) : (AV.rp v xs).putCells o [x] = x := rfl
theorem put_clo (x : AV) : (AV.clo f xs).putCells o [x] = x := rfl
theorem slc_sl (l u : Option Int) : slcA hl sz l u (.sl q g i j) = (match hget hl q with
    | .row _ g' _ rsz _ => if g' = g ∧ rsz = sz then (slcAV l u (.sl q g i j)).map fun v => { v := v } else none
    | .dead => none) := rfl
theorem slc_sv (l u : Option Int) : slcA hl sz l u (.sv v rsz xs) = if rsz = sz then (slcAV l u (.sv v rsz xs)).map fun v => { v := v } else none := rfl
theorem slcAV_sl (l u : Option Int) : slcAV l u (.sl q g i j) = let l := l.getD 0; let u := u.getD j; if 0 ≤ l ∧ l ≤ u ∧ u ≤ (j : Int) then some (.sl q g (i + l.toNat) (u - l).toNat) else none := rfl
theorem slcAV_sv (l u : Option Int) : slcAV l u (.sv v sz xs) = let l := l.getD 0; let u := u.getD xs.length; if 0 ≤ l ∧ l ≤ u ∧ u ≤ (xs.length : Int) then some (.sv false sz ((xs.drop l.toNat).take (u - l).toNat)) else none := rfl
theorem ext_tup : extAV i (.tup cs) = cs[i]? := rfl
theorem fld_agg : fldAV o b sz (.agg cs) = loadCells' b sz (cs.drop o) := rfl
theorem int_int : intAV (.int k n) = some n := rfl
theorem pick_bool : pickAV v (.bool b) (.bool c) = .bool (if v then b else c) := rfl
theorem pick_int (k' : IntKind) : pickAV v (.int k n) (.int k' m) = if v then .int k n else .int k' m := rfl
theorem pick_tupb : pickAV false (.tup cs) (.bool b) = .bool b := rfl
theorem pick_btup : pickAV true (.bool b) (.tup cs) = .bool b := rfl
theorem bin_add : binAV .add (.int k n) (.int k m) = some (.int k (k.wrap (n + m))) := by simp [binAV]
theorem bin_sub : binAV .sub (.int k n) (.int k m) = some (.int k (k.wrap (n - m))) := by simp [binAV]
theorem bin_mul : binAV .mul (.int k n) (.int k m) = some (.int k (k.wrap (n * m))) := by simp [binAV]
theorem bin_quo : binAV .quo (.int k n) (.int k m) = if m = 0 then none else some (.int k (k.wrap (n.tdiv m))) := by simp [binAV]
theorem bin_rem : binAV .rem (.int k n) (.int k m) = if m = 0 then none else some (.int k (n.tmod m)) := by simp [binAV]
theorem bin_eql : binAV .eql (.int k n) (.int k m) = some (.bool (n == m)) := by simp [binAV]
theorem bin_neq : binAV .neq (.int k n) (.int k m) = some (.bool (n != m)) := by simp [binAV]
theorem bin_lss : binAV .lss (.int k n) (.int k m) = some (.bool (decide (n < m))) := by simp [binAV]
theorem bin_leq : binAV .leq (.int k n) (.int k m) = some (.bool (decide (n ≤ m))) := by simp [binAV]
theorem bin_gtr : binAV .gtr (.int k n) (.int k m) = some (.bool (decide (m < n))) := by simp [binAV]
theorem bin_geq : binAV .geq (.int k n) (.int k m) = some (.bool (decide (m ≤ n))) := by simp [binAV]
theorem ref_agg : (AV.agg cs).ref = [] := rfl
theorem ref_sv : (AV.sv v sz xs).ref = [] := rfl
theorem ref_rp : (AV.rp v xs).ref = [] := rfl
theorem ref_sl : (AV.sl q g i j).ref = [q] := rfl
theorem ref_ptr : (AV.ptr q g i j).ref = [q] := rfl
theorem ref_nils : (AV.nils).ref = [] := rfl
theorem eqc_i (a b : Int) : eqCell .i (.int k a) (.int k b) = some (a == b) := by simp [eqCell]
theorem eqc_b (a b : Bool) : eqCell .b (.bool a) (.bool b) = some (a == b) := rfl
theorem eqc_s (a b : ByteArray) : eqCell .s (.str a) (.str b) = some (a.toList == b.toList) := rfl
theorem cont_sl : contAV h sz (.sl q g i j) = (match h q with
    | .row _ g' _ rsz xs => if g' = g ∧ rsz = sz ∧ i + j ≤ xs.length then some ((xs.drop i).take j) else none
    | .dead => none) := rfl
theorem cont_sv : contAV h sz (.sv v rsz xs) = if rsz = sz then some xs else none := rfl
end

def eqvA (neg agg : Bool) (ks : List SK) (x y : AV) : Option Res := match agg, x, y with
    | true, .agg xs, .agg ys => (eqCells ks xs ys).map fun b => { v := .bool (if neg then !b else b) }
    | false, .bool a, .bool b => if ks = [.b] then some { v := .bool (if neg then !(a == b) else a == b) } else none
    | _, _, _ => none
theorem aopA_eqv' (neg agg : Bool) (ks : List SK) (x y : Opd) (al : List (Nat × AV)) (hl : List Blk) : aopA (.eqv neg agg ks x y) al hl = eqvA neg agg ks (evA al x) (evA al y) := aopA_eqv al hl neg agg ks x y
theorem eqvA_agg (neg : Bool) (ks : List SK) (xs ys : List AV) : eqvA neg true ks (.agg xs) (.agg ys) = (eqCells ks xs ys).map fun b => { v := .bool (if neg then !b else b) } := rfl
theorem eqvA_bool (neg a b : Bool) : eqvA neg false [.b] (.bool a) (.bool b) = some { v := .bool (if neg then !(a == b) else a == b) } := rfl
/-- What an append is given. -/
theorem appendAV_sl (h : Nat → Blk) (fr sz bs q g n : Nat) (ys : List AV) : appendAV h fr sz bs (.sl q g 0 n) ys = if ys.all AV.elem = true then (match h q with
      | .row nil g' frz rsz xs =>
        if g' = g ∧ rsz = sz ∧ n ≤ xs.length ∧ (frz = false ∨ n = xs.length) ∧ (n + ys.length) * bs ≤ appBound then
          some { v := .sl q (g + 1) 0 (n + ys.length), ups := [(q, .row (nil && ys.isEmpty) (g + 1) frz sz (xs.take n ++ ys))] }
        else none
      | .dead => none) else none := rfl
theorem appendAV_nils (h : Nat → Blk) (fr sz bs : Nat) (ys : List AV) : appendAV h fr sz bs .nils ys = if ys.all AV.elem = true then (if ys.length * bs ≤ appBound then some { v := .sl fr 0 0 ys.length, ups := [(fr, .row ys.isEmpty 0 false sz ys)] } else none) else none := rfl
theorem appendAV_sv (h : Nat → Blk) (fr sz bs rsz : Nat) (xs ys : List AV) : appendAV h fr sz bs (.sv true rsz xs) ys = if ys.all AV.elem = true then (if rsz = sz ∧ ys.isEmpty = false ∧ (xs.length + ys.length) * bs ≤ appBound then some { v := .sl fr 0 0 (xs.length + ys.length), ups := [(fr, .row false 0 false sz (xs ++ ys))] } else none) else none := rfl
end Go.Am
end
section
set_option linter.defProp false
namespace Go.Am
open Go

def dr0 := And.intro @aopA_mv (And.intro @aopA_smv (And.intro @aopA_newnil (And.intro @aopA_pick (And.intro @aopA_alloc (And.intro @aopA_box (And.intro @aopA_build (And.intro @aopA_bsl (And.intro @aopA_load (And.intro @aopA_store (And.intro @aopA_nchk (And.intro @aopA_bin (And.intro @aopA_neg (And.intro @aopA_not (And.intro @aopA_conv (And.intro @aopA_ext (And.intro @aopA_faddr (And.intro @aopA_fld (And.intro @aopA_iaddr (And.intro @aopA_iaddrA (And.intro @aopA_idxA (And.intro @aopA_slc (And.intro @aopA_mks (And.intro @aopA_mkf (And.intro @aopA_len (And.intro @aopA_lenS (And.intro @aopA_lenC (And.intro @aopA_append (And.intro @aopA_mx (And.intro @aopA_mn (And.intro @evA_t (And.intro @evA_c (And.intro @List.length_cons.{0} (And.intro @List.length_nil.{0} (And.intro @List.nil_append.{0} (And.intro @List.cons_append.{0} (And.intro @List.append_nil.{0} (And.intro @List.reverse_cons.{0} (And.intro @List.reverse_nil.{0} (And.intro @List.getElem?_cons_zero.{0} (And.intro @List.getElem?_cons_succ.{0} (And.intro @List.getElem?_nil.{0} (And.intro @Nat.zero_add (And.intro @Nat.add_zero (And.intro @Bool.and_true (And.intro @Nat.lt_irrefl (And.intro @and_self (And.intro @Nat.le_refl (And.intro @true_and (And.intro @and_true (And.intro @Nat.zero_le (And.intro @Nat.lt_add_one (And.intro @aopA_idxS (And.intro @aopA_slcM (And.intro @aopA_clear (And.intro @ge_iff_le.{0} (And.intro @gt_iff_lt.{0} (And.intro @decide_true (And.intro @decide_false (And.intro @Bool.not_true (And.intro @Bool.not_false (And.intro @Bool.true_eq_false (And.intro @Bool.false_eq_true (And.intro @X_end (And.intro @X_mv (And.intro @X_smv (And.intro @X_newnil (And.intro @X_pick (And.intro @X_alloc (@X_box)))))))))))))))))))))))))))))))))))))))))))))))))))))))))))))))))))))
def dr1 := And.intro @X_build (And.intro @X_bsl (And.intro @X_load (And.intro @X_store (And.intro @X_nchk (And.intro @X_bin (And.intro @X_eqv (And.intro @X_neg (And.intro @X_not (And.intro @X_conv (And.intro @X_ext (And.intro @X_faddr (And.intro @X_fld (And.intro @X_iaddr (And.intro @X_iaddrA (And.intro @X_idxA (And.intro @X_slc (And.intro @X_mks (And.intro @X_mkf (And.intro @X_len (And.intro @X_lenS (And.intro @X_lenC (And.intro @X_append (And.intro @X_mx (And.intro @X_mn (And.intro @afterX_some (And.intro @X_g (And.intro @gX_tt (And.intro @gX_ff (And.intro @gX_tf (And.intro @gX_ft (And.intro @gX_no (And.intro @X_idxS (And.intro @X_slcM (And.intro @X_clear (And.intro @X_cl (And.intro @cells_agg (And.intro @cells_tup (And.intro @cells_int (And.intro @cells_bool (And.intro @cells_str (And.intro @cells_nilp (And.intro @cells_nilf (And.intro @cells_nili (And.intro @cells_nils (And.intro @cells_sv (And.intro @cells_sl (And.intro @cells_ptr (And.intro @cells_rp (And.intro @cells_clo (And.intro @one_int (And.intro @one_bool (And.intro @one_str (And.intro @one_nilp (And.intro @one_nilf (And.intro @one_nili (And.intro @one_nils (And.intro @one_sv (And.intro @one_sl (And.intro @one_ptr (And.intro @one_rp (And.intro @one_clo (And.intro @elem_agg (And.intro @elem_int (And.intro @elem_bool (And.intro @elem_str (And.intro @elem_nilp (And.intro @elem_nilf (And.intro @elem_nili (@elem_nils)))))))))))))))))))))))))))))))))))))))))))))))))))))))))))))))))))))
def dr2 := And.intro @elem_sv (And.intro @elem_sl (And.intro @elem_ptr (And.intro @elem_rp (And.intro @elem_clo (And.intro @lenAV_sl (And.intro @lenAV_sv (And.intro @lenAV_nils (And.intro @ia_sl (And.intro @ia_sv (And.intro @ld_ptr (And.intro @ld_rp (And.intro @st_ptr (And.intro @fa_ptr (And.intro @fa_rp (And.intro @put_agg (And.intro @put_int (And.intro @put_bool (And.intro @put_str (And.intro @put_nilp (And.intro @put_nilf (And.intro @put_nils (And.intro @put_sl (And.intro @put_sv (And.intro @put_ptr (And.intro @put_rp (And.intro @put_clo (And.intro @slc_sl (And.intro @slc_sv (And.intro @slcAV_sl (And.intro @slcAV_sv (And.intro @ext_tup (And.intro @fld_agg (And.intro @int_int (And.intro @pick_bool (And.intro @pick_int (And.intro @pick_tupb (And.intro @pick_btup (And.intro @bin_add (And.intro @bin_sub (And.intro @bin_mul (And.intro @bin_quo (And.intro @bin_rem (And.intro @bin_eql (And.intro @bin_neq (And.intro @bin_lss (And.intro @bin_leq (And.intro @bin_gtr (And.intro @bin_geq (And.intro @ref_agg (And.intro @ref_sv (And.intro @ref_rp (And.intro @ref_sl (And.intro @ref_ptr (And.intro @ref_nils (And.intro @eqc_i (And.intro @eqc_b (And.intro @eqc_s (And.intro @cont_sl (And.intro @cont_sv (And.intro @aopA_eqv' (And.intro @eqvA_agg (And.intro @eqvA_bool (And.intro @appendAV_sl (And.intro @appendAV_nils (@appendAV_sv)))))))))))))))))))))))))))))))))))))))))))))))))))))))))))))))))
end Go.Am
end
