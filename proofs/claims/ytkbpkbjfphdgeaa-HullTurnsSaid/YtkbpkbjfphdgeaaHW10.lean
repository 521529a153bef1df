/- Reversing a part: walk.
   Conditions: none. -/
import Derived.Test.YtkbpkbjfphdgeaaHW9
set_option linter.unusedSimpArgs false
set_option linter.unusedVariables false
set_option maxHeartbeats 2000000
namespace Go.Hull
open Go Go.Am Go.Proofs

theorem c87' (g n : Nat) (xs : List Nat) (hnx : n ≤ xs.length) (hn : n < 4611686018427387904) :
    CallsF Try.prog 87 [.sl 0 g 0 n] [.row false g false 1 (ix xs)] (.tup []) [.row false g false 1 (ix (rv n n 0 xs))] := by
  have hw : IntKind.i64.wrap ((n : Int) - 1) = (n : Int) - 1 := wr _ (by omega) (by omega)
  refine callsF_cw hm hf87 (by simp [cf87]) ?_
  simp only [cf87, argsAl]
  refine CW.rI fun K hK => ?_
  simp (maxSteps := 4000000) only [amC, amR, evsA, evpA, elemsA, elemsP, sizedA, optA, refA, setO, Am.set, Am.get, AV.elem, AV.cells, AV.one, hsetL, hset, hget, loadAV, rowAt?, loadCells', faddrAV, binAV, fillA, storeAV, AV.putCells, AV.ref, List.foldl, List.all, List.map, List.set, List.take, List.drop, Option.getD, Option.map, if_true, if_false, Nat.reduceEqDiff, Nat.reduceAdd, Nat.reduceLT, Nat.reduceLeDiff, reduceCtorEq, ↓reduceIte, pickAV, lenAV, intAV, slcA, slcAV, iaddrAV, extAV, fldAV, eqCells, eqCell, contAV, appendAV, foldAV, maxI, minI, Option.some.injEq, catT, hw]
  refine hK _ _ nofun ?_
  clear hK K
  refine CW.block ?_
  refine CW.loopF (fun q : Nat × List Nat => n - q.1) (fun q => ⟨[(0, .sl 0 g 0 n), (2, .int .i64 (q.1 : Int)), (3, .int .i64 ((n : Int) - 1 - (q.1 : Int)))], [.row false g false 1 (ix q.2)]⟩)
    (fun q => q.1 ≤ n ∧ q.2.length = xs.length ∧ rv n (n - q.1) q.1 q.2 = rv n n 0 xs) (fun q hq => ?_) (0, xs) ⟨Nat.zero_le _, rfl, rfl⟩ _ (Fgt.mk' 1 (by simp) (by simp [keepB, Am.get, AV.lt, ltL]) rfl ⟨by simp only [Blk.lt, ltL_ix], trivial⟩)
  obtain ⟨i, ys⟩ := q
  obtain ⟨hi, hl, hr⟩ := hq
  simp only at hi hl hr
  refine CW.seq ?_
  by_cases h : (i : Int) < (n : Int) - 1 - (i : Int)
  · obtain ⟨j, hj⟩ : ∃ j : Nat, (n : Int) - 1 - (i : Int) = (j : Int) := ⟨n - 1 - i, by omega⟩
    have hjn : j = n - 1 - i := by omega
    have hij : i < j := by omega
    have hi1 : i < ys.length := by omega
    have hj1 : j < ys.length := by omega
    rw [hj] at h ⊢
    refine CW.rI fun K hK => ?_
    simp (maxSteps := 4000000) only [amC, amR, evsA, evpA, elemsA, elemsP, sizedA, optA, refA, setO, Am.set, Am.get, AV.elem, AV.cells, AV.one, hsetL, hset, hget, loadAV, rowAt?, loadCells', faddrAV, binAV, fillA, storeAV, AV.putCells, AV.ref, List.foldl, List.all, List.map, List.set, List.take, List.drop, Option.getD, Option.map, if_true, if_false, Nat.reduceEqDiff, Nat.reduceAdd, Nat.reduceLT, Nat.reduceLeDiff, reduceCtorEq, ↓reduceIte, pickAV, lenAV, intAV, slcA, slcAV, iaddrAV, extAV, fldAV, eqCells, eqCell, contAV, appendAV, foldAV, maxI, minI, Option.some.injEq, catT, h]
    refine hK _ _ nofun ?_
    clear hK K
    refine CW.condT rfl (CW.skip ?_)
    show CW _ _ _ _ _ _
    refine CW.seq ?_
    refine CW.block ?_
    have a1 : (i : Int) < ((n : Nat) : Int) := by omega
    have a2 : (j : Int) < ((n : Nat) : Int) := by omega
    refine CW.rE fun K hK => ?_
    simp (maxSteps := 4000000) only [amC, amR, evsA, evpA, elemsA, elemsP, sizedA, optA, refA, setO, Am.set, Am.get, AV.elem, AV.cells, AV.one, hsetL, hset, hget, loadAV, rowAt?, loadCells', faddrAV, binAV, fillA, storeAV, AV.putCells, AV.ref, List.foldl, List.all, List.map, List.set, List.take, List.drop, Option.getD, Option.map, if_true, if_false, Nat.reduceEqDiff, Nat.reduceAdd, Nat.reduceLT, Nat.reduceLeDiff, reduceCtorEq, ↓reduceIte, pickAV, lenAV, intAV, slcA, slcAV, iaddrAV, extAV, fldAV, eqCells, eqCell, contAV, appendAV, foldAV, maxI, minI, Option.some.injEq, catT, a1, a2, Int.natCast_nonneg, Int.toNat_natCast, ix_get ys hi1, ix_get ys hj1, AV.cells, AV.elem, AV.one, List.all_cons, List.all_nil, ix_set, ix_get (ys.set i (ys.getD j 0)) (show j < (ys.set i (ys.getD j 0)).length by simp; omega)]
    refine hK _ _ (fun _ => rfl) ?_
    clear hK K
    have w2 : IntKind.i64.wrap ((j : Int) - 1) = (n : Int) - 1 - ((i + 1 : Nat) : Int) := by rw [wr _ (by omega) (by omega)]; omega
    refine CW.rE fun K hK => ?_
    simp (maxSteps := 4000000) only [amC, amR, evsA, evpA, elemsA, elemsP, sizedA, optA, refA, setO, Am.set, Am.get, AV.elem, AV.cells, AV.one, hsetL, hset, hget, loadAV, rowAt?, loadCells', faddrAV, binAV, fillA, storeAV, AV.putCells, AV.ref, List.foldl, List.all, List.map, List.set, List.take, List.drop, Option.getD, Option.map, if_true, if_false, Nat.reduceEqDiff, Nat.reduceAdd, Nat.reduceLT, Nat.reduceLeDiff, reduceCtorEq, ↓reduceIte, pickAV, lenAV, intAV, slcA, slcAV, iaddrAV, extAV, fldAV, eqCells, eqCell, contAV, appendAV, foldAV, maxI, minI, Option.some.injEq, catT, wrap_nat i (by omega), w2]
    refine hK _ _ nofun ?_
    clear hK K
    refine ⟨(i + 1, (ys.set i (ys.getD j 0)).set j (ys.getD i 0)), by simp only; omega, ⟨by simp only; omega, by simp [hl], ?_⟩, Fgt.mk' 1 (by simp) (by simp [keepB, Am.get, AV.lt, ltL]) rfl ⟨by simp only [Blk.lt, ltL_ix], trivial⟩⟩
    rw [← hr]
    have e : n - i = (n - (i + 1)) + 1 := by omega
    rw [e]
    simp only [rv]
    rw [if_pos (by omega), hjn]
  · refine CW.rI fun K hK => ?_
    simp (maxSteps := 4000000) only [amC, amR, evsA, evpA, elemsA, elemsP, sizedA, optA, refA, setO, Am.set, Am.get, AV.elem, AV.cells, AV.one, hsetL, hset, hget, loadAV, rowAt?, loadCells', faddrAV, binAV, fillA, storeAV, AV.putCells, AV.ref, List.foldl, List.all, List.map, List.set, List.take, List.drop, Option.getD, Option.map, if_true, if_false, Nat.reduceEqDiff, Nat.reduceAdd, Nat.reduceLT, Nat.reduceLeDiff, reduceCtorEq, ↓reduceIte, pickAV, lenAV, intAV, slcA, slcAV, iaddrAV, extAV, fldAV, eqCells, eqCell, contAV, appendAV, foldAV, maxI, minI, Option.some.injEq, catT, h]
    refine hK _ _ nofun ?_
    clear hK K
    refine CW.condF rfl (CW.exit ?_)
    have hys : ys = rv n n 0 xs := by
      rw [← hr]
      cases hf : n - i with
      | zero => rfl
      | succ f =>
        simp only [rv]
        rw [if_neg (by omega)]
    subst hys
    exact finK_keep (.inl rfl) (xs := []) rfl rfl rfl (by simp) rfl (fun b hb => by rw [List.mem_singleton.1 hb]; simp only [Blk.allR, allRL_ix])
end Go.Hull
