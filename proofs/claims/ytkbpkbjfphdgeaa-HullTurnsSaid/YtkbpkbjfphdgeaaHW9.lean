/- Leaving out equal points: walk.
   Conditions: numbers of points of a list. -/
import Derived.Test.YtkbpkbjfphdgeaaHW7
import Derived.Test.YtkbpkbjfphdgeaaAm12
set_option linter.unusedSimpArgs false
set_option linter.unusedVariables false
set_option maxHeartbeats 2000000
namespace Go.Hull
open Go Go.Am Go.Proofs

def sameB (l : List Pt) (a b : Nat) : Bool := eqP (l.getD a (0, 0)) (l.getD b (0, 0))
/-- The second half of leaving out: k0 is where the first equal one stands. -/
def compIn (eq : Nat → Nat → Bool) (k0 : Nat) : Nat → Nat → Nat → List Nat → List Nat × Nat
  | 0, _, k, xs => (xs, k)
  | f + 1, k2, k, xs => if eq (xs.getD (k0 + k2) 0) (xs.getD (k0 + k2 - 1) 0) = true then compIn eq k0 f (k2 + 1) k xs else compIn eq k0 f (k2 + 1) (k + 1) (xs.set k (xs.getD (k0 + k2) 0))
def zeroed (n : Nat) (q : List Nat × Nat) : List Nat × Nat := (q.1.take q.2 ++ List.replicate (n - q.2) 0, q.2)
def compOut (eq : Nat → Nat → Bool) : Nat → Nat → List Nat → List Nat × Nat
  | 0, _, xs => (xs, xs.length)
  | f + 1, k, xs => if eq (xs.getD k 0) (xs.getD (k - 1) 0) = true then zeroed xs.length (compIn eq k (xs.length - k - 1) 1 k xs) else compOut eq f (k + 1) xs
def compact (eq : Nat → Nat → Bool) (xs : List Nat) : List Nat × Nat := if xs.length < 2 then (xs, xs.length) else compOut eq (xs.length - 1) 1 xs

theorem ix_append (xs ys : List Nat) : ix xs ++ ix ys = ix (xs ++ ys) := by simp [ix]

theorem c84 (l : List Pt) (g : Nat) (xs : List Nat) (hx : ∀ x ∈ xs, x < l.length) (hn : xs.length < 1000) :
    CallsF Try.prog 84 [.sl 0 g 0 xs.length, .clo 85 [.rp true [pts l]]] [.row false g false 1 (ix xs)] (.sl 0 g 0 (compact (sameB l) xs).2) [.row false g false 1 (ix (compact (sameB l) xs).1)] := by
  refine callsF_cw hm hf84 (by simp [cf84]) ?_
  simp only [cf84, argsAl]
  refine CW.rI fun K hK => ?_
  simp (maxSteps := 4000000) only [amC, amR, evsA, evpA, elemsA, elemsP, sizedA, optA, refA, setO, Am.set, Am.get, AV.elem, AV.cells, AV.one, hsetL, hset, hget, loadAV, rowAt?, loadCells', faddrAV, binAV, fillA, storeAV, AV.putCells, AV.ref, List.foldl, List.all, List.map, List.set, List.take, List.drop, Option.getD, Option.map, if_true, if_false, Nat.reduceEqDiff, Nat.reduceAdd, Nat.reduceLT, Nat.reduceLeDiff, reduceCtorEq, ↓reduceIte, pickAV, lenAV, intAV, slcA, slcAV, iaddrAV, extAV, fldAV, eqCells, eqCell, contAV, appendAV, foldAV, maxI, minI, Option.some.injEq, catT]
  refine hK _ _ nofun ?_
  clear hK K
  refine CW.seq ?_
  by_cases h2 : (xs.length : Int) < 2
  · have hc : compact (sameB l) xs = (xs, xs.length) := by unfold compact; rw [if_pos (by omega)]
    rw [hc]
    refine CW.rI fun K hK => ?_
    simp (maxSteps := 4000000) only [amC, amR, evsA, evpA, elemsA, elemsP, sizedA, optA, refA, setO, Am.set, Am.get, AV.elem, AV.cells, AV.one, hsetL, hset, hget, loadAV, rowAt?, loadCells', faddrAV, binAV, fillA, storeAV, AV.putCells, AV.ref, List.foldl, List.all, List.map, List.set, List.take, List.drop, Option.getD, Option.map, if_true, if_false, Nat.reduceEqDiff, Nat.reduceAdd, Nat.reduceLT, Nat.reduceLeDiff, reduceCtorEq, ↓reduceIte, pickAV, lenAV, intAV, slcA, slcAV, iaddrAV, extAV, fldAV, eqCells, eqCell, contAV, appendAV, foldAV, maxI, minI, Option.some.injEq, catT, h2]
    refine hK _ _ nofun ?_
    clear hK K
    refine CW.condT rfl ?_
    refine CW.rI fun K hK => ?_
    simp (maxSteps := 4000000) only [amC, amR, evsA, evpA, elemsA, elemsP, sizedA, optA, refA, setO, Am.set, Am.get, AV.elem, AV.cells, AV.one, hsetL, hset, hget, loadAV, rowAt?, loadCells', faddrAV, binAV, fillA, storeAV, AV.putCells, AV.ref, List.foldl, List.all, List.map, List.set, List.take, List.drop, Option.getD, Option.map, if_true, if_false, Nat.reduceEqDiff, Nat.reduceAdd, Nat.reduceLT, Nat.reduceLeDiff, reduceCtorEq, ↓reduceIte, pickAV, lenAV, intAV, slcA, slcAV, iaddrAV, extAV, fldAV, eqCells, eqCell, contAV, appendAV, foldAV, maxI, minI, Option.some.injEq, catT]
    refine hK _ _ nofun ?_
    clear hK K
    exact CW.ret (finK_rows (.inr rfl) (xs := [.sl 0 g 0 xs.length]) (by simp [resRV, Am.get]) rfl rfl rfl (by simp) rfl (fun b hb => by rw [List.mem_singleton.1 hb]; simp only [Blk.allR, allRL_ix]))
  · have hc0 : compact (sameB l) xs = compOut (sameB l) (xs.length - 1) 1 xs := by unfold compact; rw [if_neg (by omega)]
    refine CW.rI fun K hK => ?_
    simp (maxSteps := 4000000) only [amC, amR, evsA, evpA, elemsA, elemsP, sizedA, optA, refA, setO, Am.set, Am.get, AV.elem, AV.cells, AV.one, hsetL, hset, hget, loadAV, rowAt?, loadCells', faddrAV, binAV, fillA, storeAV, AV.putCells, AV.ref, List.foldl, List.all, List.map, List.set, List.take, List.drop, Option.getD, Option.map, if_true, if_false, Nat.reduceEqDiff, Nat.reduceAdd, Nat.reduceLT, Nat.reduceLeDiff, reduceCtorEq, ↓reduceIte, pickAV, lenAV, intAV, slcA, slcAV, iaddrAV, extAV, fldAV, eqCells, eqCell, contAV, appendAV, foldAV, maxI, minI, Option.some.injEq, catT, h2]
    refine hK _ _ nofun ?_
    clear hK K
    refine CW.condF rfl (CW.skip ?_)
    show CW _ _ _ _ _ _
    refine CW.seq ?_
    refine CW.rI fun K hK => ?_
    simp (maxSteps := 4000000) only [amC, amR, evsA, evpA, elemsA, elemsP, sizedA, optA, refA, setO, Am.set, Am.get, AV.elem, AV.cells, AV.one, hsetL, hset, hget, loadAV, rowAt?, loadCells', faddrAV, binAV, fillA, storeAV, AV.putCells, AV.ref, List.foldl, List.all, List.map, List.set, List.take, List.drop, Option.getD, Option.map, if_true, if_false, Nat.reduceEqDiff, Nat.reduceAdd, Nat.reduceLT, Nat.reduceLeDiff, reduceCtorEq, ↓reduceIte, pickAV, lenAV, intAV, slcA, slcAV, iaddrAV, extAV, fldAV, eqCells, eqCell, contAV, appendAV, foldAV, maxI, minI, Option.some.injEq, catT]
    refine hK _ _ nofun ?_
    clear hK K
    refine CW.block ?_
    refine CW.loopF (fun k : Nat => xs.length - k) (fun k => ⟨[(0, .sl 0 g 0 xs.length), (1, .clo 85 [.rp true [pts l]]), (5, .int .i64 (k : Int))], [.row false g false 1 (ix xs)]⟩)
      (fun k => 1 ≤ k ∧ k ≤ xs.length ∧ compOut (sameB l) (xs.length - k) k xs = compact (sameB l) xs) (fun k hk => ?_) 1 ⟨Nat.le_refl _, by omega, hc0.symm⟩ _ (Fgt.mk' 1 (by simp) (by simp [keepB, Am.get, AV.lt, ltL, lt_pts]) rfl ⟨by simp only [Blk.lt, ltL_ix], trivial⟩)
    obtain ⟨hk1, hk2, hkc⟩ := hk
    refine CW.seq ?_
    by_cases h : (k : Int) < (xs.length : Int)
    · refine CW.rI fun K hK => ?_
      simp (maxSteps := 4000000) only [amC, amR, evsA, evpA, elemsA, elemsP, sizedA, optA, refA, setO, Am.set, Am.get, AV.elem, AV.cells, AV.one, hsetL, hset, hget, loadAV, rowAt?, loadCells', faddrAV, binAV, fillA, storeAV, AV.putCells, AV.ref, List.foldl, List.all, List.map, List.set, List.take, List.drop, Option.getD, Option.map, if_true, if_false, Nat.reduceEqDiff, Nat.reduceAdd, Nat.reduceLT, Nat.reduceLeDiff, reduceCtorEq, ↓reduceIte, pickAV, lenAV, intAV, slcA, slcAV, iaddrAV, extAV, fldAV, eqCells, eqCell, contAV, appendAV, foldAV, maxI, minI, Option.some.injEq, catT, h]
      refine hK _ _ nofun ?_
      clear hK K
      refine CW.condT rfl (CW.skip ?_)
      show CW _ _ _ _ _ _
      refine CW.seq ?_
      refine CW.block ?_
      obtain ⟨j, rfl⟩ : ∃ j, k = j + 1 := ⟨k - 1, by omega⟩
      have hj1 : j + 1 < xs.length := by omega
      have g1 := ix_get xs hj1
      have g0 := ix_get xs (show j < xs.length by omega)
      have b1 := getD_lt hx hj1
      have b0 := getD_lt hx (show j < xs.length by omega)
      have w1 := wrap_pred j (by omega)
      have p3 : ((j : Nat) : Int) < ((xs.length : Nat) : Int) := by omega
      have hf : xs.length - (j + 1) = (xs.length - (j + 1) - 1) + 1 := by omega
      rw [hf] at hkc
      simp only [compOut, Nat.add_sub_cancel] at hkc
      refine CW.rI fun K hK => ?_
      simp (maxSteps := 4000000) only [amC, amR, evsA, evpA, elemsA, elemsP, sizedA, optA, refA, setO, Am.set, Am.get, AV.elem, AV.cells, AV.one, hsetL, hset, hget, loadAV, rowAt?, loadCells', faddrAV, binAV, fillA, storeAV, AV.putCells, AV.ref, List.foldl, List.all, List.map, List.set, List.take, List.drop, Option.getD, Option.map, if_true, if_false, Nat.reduceEqDiff, Nat.reduceAdd, Nat.reduceLT, Nat.reduceLeDiff, reduceCtorEq, ↓reduceIte, pickAV, lenAV, intAV, slcA, slcAV, iaddrAV, extAV, fldAV, eqCells, eqCell, contAV, appendAV, foldAV, maxI, minI, Option.some.injEq, catT, h, w1, p3, Int.natCast_nonneg, Int.toNat_natCast, g1, g0, AV.cells]
      refine RunCall.view (fid := 85) (caps := [.rp true [pts l]]) rfl rfl (viewArgs_flat3 rfl rfl (flat_rp l)) (c85 (getp b1) (getp b0)) rfl ?_
      simp (maxSteps := 4000000) only [amC, amR, evsA, evpA, elemsA, elemsP, sizedA, optA, refA, setO, Am.set, Am.get, AV.elem, AV.cells, AV.one, hsetL, hset, hget, loadAV, rowAt?, loadCells', faddrAV, binAV, fillA, storeAV, AV.putCells, AV.ref, List.foldl, List.all, List.map, List.set, List.take, List.drop, Option.getD, Option.map, if_true, if_false, Nat.reduceEqDiff, Nat.reduceAdd, Nat.reduceLT, Nat.reduceLeDiff, reduceCtorEq, ↓reduceIte, pickAV, lenAV, intAV, slcA, slcAV, iaddrAV, extAV, fldAV, eqCells, eqCell, contAV, appendAV, foldAV, maxI, minI, Option.some.injEq, catT]
      refine hK _ _ (fun _ => rfl) ?_
      clear hK K
      by_cases he : sameB l (xs.getD (j + 1) 0) (xs.getD j 0) = true
      · rw [if_pos he] at hkc
        have he' : eqP (l.getD (xs.getD (j + 1) 0) (0, 0)) (l.getD (xs.getD j 0) (0, 0)) = true := he
        rw [he']
        refine CW.condT rfl ?_
        refine CW.rI fun K hK => ?_
        simp (maxSteps := 4000000) only [amC, amR, evsA, evpA, elemsA, elemsP, sizedA, optA, refA, setO, Am.set, Am.get, AV.elem, AV.cells, AV.one, hsetL, hset, hget, loadAV, rowAt?, loadCells', faddrAV, binAV, fillA, storeAV, AV.putCells, AV.ref, List.foldl, List.all, List.map, List.set, List.take, List.drop, Option.getD, Option.map, if_true, if_false, Nat.reduceEqDiff, Nat.reduceAdd, Nat.reduceLT, Nat.reduceLeDiff, reduceCtorEq, ↓reduceIte, pickAV, lenAV, intAV, slcA, slcAV, iaddrAV, extAV, fldAV, eqCells, eqCell, contAV, appendAV, foldAV, maxI, minI, Option.some.injEq, catT, Int.natCast_nonneg, Int.toNat_natCast, show ((j + 1 : Nat) : Int) ≤ ((xs.length : Nat) : Int) from by omega, Int.le_refl]
        refine hK _ _ nofun ?_
        clear hK K
        have en : (((xs.length : Nat) : Int) - ((j + 1 : Nat) : Int)).toNat = xs.length - (j + 1) := by omega
        rw [en]
        refine CW.seq ?_
        refine CW.rI fun K hK => ?_
        simp (maxSteps := 4000000) only [amC, amR, evsA, evpA, elemsA, elemsP, sizedA, optA, refA, setO, Am.set, Am.get, AV.elem, AV.cells, AV.one, hsetL, hset, hget, loadAV, rowAt?, loadCells', faddrAV, binAV, fillA, storeAV, AV.putCells, AV.ref, List.foldl, List.all, List.map, List.set, List.take, List.drop, Option.getD, Option.map, if_true, if_false, Nat.reduceEqDiff, Nat.reduceAdd, Nat.reduceLT, Nat.reduceLeDiff, reduceCtorEq, ↓reduceIte, pickAV, lenAV, intAV, slcA, slcAV, iaddrAV, extAV, fldAV, eqCells, eqCell, contAV, appendAV, foldAV, maxI, minI, Option.some.injEq, catT]
        refine hK _ _ nofun ?_
        clear hK K
        refine CW.block ?_
        refine CW.loopF (fun q : Nat × Nat × List Nat => xs.length - q.1) (fun q => ⟨[(0, .sl 0 g 0 xs.length), (1, .clo 85 [.rp true [pts l]]), (5, .int .i64 (q.2.1 : Int)), (6, .sl 0 g (j + 1) (xs.length - (j + 1))), (7, .int .i64 (q.1 : Int))], [.row false g false 1 (ix q.2.2)]⟩)
          (fun q => 1 ≤ q.1 ∧ (j + 1) + q.1 ≤ xs.length ∧ q.2.2.length = xs.length ∧ (∀ x ∈ q.2.2, x < l.length) ∧ q.2.1 < (j + 1) + q.1 ∧ zeroed xs.length (compIn (sameB l) (j + 1) (xs.length - (j + 1) - q.1) q.1 q.2.1 q.2.2) = compact (sameB l) xs) (fun q hq => ?_) (1, j + 1, xs) ⟨Nat.le_refl _, by simp only; omega, rfl, hx, by simp only; omega, hkc⟩ _ (Fgt.mk' 1 (by simp) (by simp [keepB, Am.get, AV.lt, ltL, lt_pts]) rfl ⟨by simp only [Blk.lt, ltL_ix], trivial⟩)
        obtain ⟨k2, k, ys⟩ := q
        obtain ⟨q1, q2, q3, q4, q5, q6⟩ := hq
        simp only at q1 q2 q3 q4 q5 q6
        refine CW.seq ?_
        by_cases hk2' : (k2 : Int) < ((xs.length - (j + 1) : Nat) : Int)
        · refine CW.rI fun K hK => ?_
          simp (maxSteps := 4000000) only [amC, amR, evsA, evpA, elemsA, elemsP, sizedA, optA, refA, setO, Am.set, Am.get, AV.elem, AV.cells, AV.one, hsetL, hset, hget, loadAV, rowAt?, loadCells', faddrAV, binAV, fillA, storeAV, AV.putCells, AV.ref, List.foldl, List.all, List.map, List.set, List.take, List.drop, Option.getD, Option.map, if_true, if_false, Nat.reduceEqDiff, Nat.reduceAdd, Nat.reduceLT, Nat.reduceLeDiff, reduceCtorEq, ↓reduceIte, pickAV, lenAV, intAV, slcA, slcAV, iaddrAV, extAV, fldAV, eqCells, eqCell, contAV, appendAV, foldAV, maxI, minI, Option.some.injEq, catT, hk2']
          refine hK _ _ nofun ?_
          clear hK K
          refine CW.condT rfl (CW.skip ?_)
          show CW _ _ _ _ _ _
          refine CW.seq ?_
          refine CW.block ?_
          obtain ⟨m, rfl⟩ : ∃ m, k2 = m + 1 := ⟨k2 - 1, by omega⟩
          have i1 : j + 1 + (m + 1) < ys.length := by omega
          have g1' := ix_get ys i1
          have g0' := ix_get ys (show j + 1 + m < ys.length by omega)
          have b1' := getD_lt q4 i1
          have b0' := getD_lt q4 (show j + 1 + m < ys.length by omega)
          have w1' := wrap_pred m (by omega)
          have p3' : ((m : Nat) : Int) < ((xs.length - (j + 1) : Nat) : Int) := by omega
          have hf' : xs.length - (j + 1) - (m + 1) = (xs.length - (j + 1) - (m + 1 + 1)) + 1 := by omega
          rw [hf'] at q6
          simp only [compIn] at q6
          rw [show j + 1 + (m + 1) - 1 = j + 1 + m by omega] at q6
          refine CW.rI fun K hK => ?_
          simp (maxSteps := 4000000) only [amC, amR, evsA, evpA, elemsA, elemsP, sizedA, optA, refA, setO, Am.set, Am.get, AV.elem, AV.cells, AV.one, hsetL, hset, hget, loadAV, rowAt?, loadCells', faddrAV, binAV, fillA, storeAV, AV.putCells, AV.ref, List.foldl, List.all, List.map, List.set, List.take, List.drop, Option.getD, Option.map, if_true, if_false, Nat.reduceEqDiff, Nat.reduceAdd, Nat.reduceLT, Nat.reduceLeDiff, reduceCtorEq, ↓reduceIte, pickAV, lenAV, intAV, slcA, slcAV, iaddrAV, extAV, fldAV, eqCells, eqCell, contAV, appendAV, foldAV, maxI, minI, Option.some.injEq, catT, hk2', w1', p3', Int.natCast_nonneg, Int.toNat_natCast, g1', g0', AV.cells]
          refine RunCall.view (fid := 85) (caps := [.rp true [pts l]]) rfl rfl (viewArgs_flat3 rfl rfl (flat_rp l)) (c85 (getp b1') (getp b0')) rfl ?_
          by_cases he2 : sameB l (ys.getD (j + 1 + (m + 1)) 0) (ys.getD (j + 1 + m) 0) = true
          · rw [if_pos he2] at q6
            have he2' : eqP (l.getD (ys.getD (j + 1 + (m + 1)) 0) (0, 0)) (l.getD (ys.getD (j + 1 + m) 0) (0, 0)) = true := he2
            rw [he2']
            simp (maxSteps := 4000000) only [amC, amR, evsA, evpA, elemsA, elemsP, sizedA, optA, refA, setO, Am.set, Am.get, AV.elem, AV.cells, AV.one, hsetL, hset, hget, loadAV, rowAt?, loadCells', faddrAV, binAV, fillA, storeAV, AV.putCells, AV.ref, List.foldl, List.all, List.map, List.set, List.take, List.drop, Option.getD, Option.map, if_true, if_false, Nat.reduceEqDiff, Nat.reduceAdd, Nat.reduceLT, Nat.reduceLeDiff, reduceCtorEq, ↓reduceIte, pickAV, lenAV, intAV, slcA, slcAV, iaddrAV, extAV, fldAV, eqCells, eqCell, contAV, appendAV, foldAV, maxI, minI, Option.some.injEq, catT]
            refine hK _ _ (fun _ => rfl) ?_
            clear hK K
            refine CW.condF rfl (CW.skip ?_)
            show CW _ _ _ _ _ _
            refine CW.rE fun K hK => ?_
            simp (maxSteps := 4000000) only [amC, amR, evsA, evpA, elemsA, elemsP, sizedA, optA, refA, setO, Am.set, Am.get, AV.elem, AV.cells, AV.one, hsetL, hset, hget, loadAV, rowAt?, loadCells', faddrAV, binAV, fillA, storeAV, AV.putCells, AV.ref, List.foldl, List.all, List.map, List.set, List.take, List.drop, Option.getD, Option.map, if_true, if_false, Nat.reduceEqDiff, Nat.reduceAdd, Nat.reduceLT, Nat.reduceLeDiff, reduceCtorEq, ↓reduceIte, pickAV, lenAV, intAV, slcA, slcAV, iaddrAV, extAV, fldAV, eqCells, eqCell, contAV, appendAV, foldAV, maxI, minI, Option.some.injEq, catT, wrap_nat (m + 1) (by omega)]
            refine hK _ _ nofun ?_
            clear hK K
            exact ⟨(m + 1 + 1, k, ys), by simp only; omega, ⟨by simp only; omega, by simp only; omega, q3, q4, by simp only; omega, q6⟩, Fgt.mk' 1 (by simp) (by simp [keepB, Am.get, AV.lt, ltL, lt_pts]) rfl ⟨by simp only [Blk.lt, ltL_ix], trivial⟩⟩
          · rw [if_neg he2] at q6
            have he2' : eqP (l.getD (ys.getD (j + 1 + (m + 1)) 0) (0, 0)) (l.getD (ys.getD (j + 1 + m) 0) (0, 0)) = false := by simpa [sameB] using he2
            rw [he2']
            have hkl : (k : Int) < ((xs.length : Nat) : Int) := by omega
            have gk := ix_get ys (show k < ys.length by omega)
            simp (maxSteps := 4000000) only [amC, amR, evsA, evpA, elemsA, elemsP, sizedA, optA, refA, setO, Am.set, Am.get, AV.elem, AV.cells, AV.one, hsetL, hset, hget, loadAV, rowAt?, loadCells', faddrAV, binAV, fillA, storeAV, AV.putCells, AV.ref, List.foldl, List.all, List.map, List.set, List.take, List.drop, Option.getD, Option.map, if_true, if_false, Nat.reduceEqDiff, Nat.reduceAdd, Nat.reduceLT, Nat.reduceLeDiff, reduceCtorEq, ↓reduceIte, pickAV, lenAV, intAV, slcA, slcAV, iaddrAV, extAV, fldAV, eqCells, eqCell, contAV, appendAV, foldAV, maxI, minI, Option.some.injEq, catT]
            refine hK _ _ (fun _ => rfl) ?_
            clear hK K
            refine CW.condT rfl ?_
            refine CW.rI fun K hK => ?_
            simp (maxSteps := 4000000) only [amC, amR, evsA, evpA, elemsA, elemsP, sizedA, optA, refA, setO, Am.set, Am.get, AV.elem, AV.cells, AV.one, hsetL, hset, hget, loadAV, rowAt?, loadCells', faddrAV, binAV, fillA, storeAV, AV.putCells, AV.ref, List.foldl, List.all, List.map, List.set, List.take, List.drop, Option.getD, Option.map, if_true, if_false, Nat.reduceEqDiff, Nat.reduceAdd, Nat.reduceLT, Nat.reduceLeDiff, reduceCtorEq, ↓reduceIte, pickAV, lenAV, intAV, slcA, slcAV, iaddrAV, extAV, fldAV, eqCells, eqCell, contAV, appendAV, foldAV, maxI, minI, Option.some.injEq, catT, hk2', hkl, Int.natCast_nonneg, Int.toNat_natCast, g1', gk, AV.cells, AV.elem, AV.one, List.all_cons, List.all_nil, ix_set]
            refine hK _ _ nofun ?_
            clear hK K
            refine CW.rE fun K hK => ?_
            simp (maxSteps := 4000000) only [amC, amR, evsA, evpA, elemsA, elemsP, sizedA, optA, refA, setO, Am.set, Am.get, AV.elem, AV.cells, AV.one, hsetL, hset, hget, loadAV, rowAt?, loadCells', faddrAV, binAV, fillA, storeAV, AV.putCells, AV.ref, List.foldl, List.all, List.map, List.set, List.take, List.drop, Option.getD, Option.map, if_true, if_false, Nat.reduceEqDiff, Nat.reduceAdd, Nat.reduceLT, Nat.reduceLeDiff, reduceCtorEq, ↓reduceIte, pickAV, lenAV, intAV, slcA, slcAV, iaddrAV, extAV, fldAV, eqCells, eqCell, contAV, appendAV, foldAV, maxI, minI, Option.some.injEq, catT, wrap_nat k (by omega)]
            refine hK _ _ nofun ?_
            clear hK K
            refine CW.rE fun K hK => ?_
            simp (maxSteps := 4000000) only [amC, amR, evsA, evpA, elemsA, elemsP, sizedA, optA, refA, setO, Am.set, Am.get, AV.elem, AV.cells, AV.one, hsetL, hset, hget, loadAV, rowAt?, loadCells', faddrAV, binAV, fillA, storeAV, AV.putCells, AV.ref, List.foldl, List.all, List.map, List.set, List.take, List.drop, Option.getD, Option.map, if_true, if_false, Nat.reduceEqDiff, Nat.reduceAdd, Nat.reduceLT, Nat.reduceLeDiff, reduceCtorEq, ↓reduceIte, pickAV, lenAV, intAV, slcA, slcAV, iaddrAV, extAV, fldAV, eqCells, eqCell, contAV, appendAV, foldAV, maxI, minI, Option.some.injEq, catT, wrap_nat (m + 1) (by omega)]
            refine hK _ _ nofun ?_
            clear hK K
            refine ⟨(m + 1 + 1, k + 1, ys.set k (ys.getD (j + 1 + (m + 1)) 0)), by simp only; omega, ⟨by simp only; omega, by simp only; omega, by simp [q3], ?_, by simp only; omega, q6⟩, Fgt.mk' 1 (by simp) (by simp [keepB, Am.get, AV.lt, ltL, lt_pts]) rfl ⟨by simp only [Blk.lt, ltL_ix], trivial⟩⟩
            intro x hx'
            rcases List.mem_or_eq_of_mem_set hx' with h1 | h1
            · exact q4 x h1
            · rw [h1]; exact b1'
        · refine CW.rI fun K hK => ?_
          simp (maxSteps := 4000000) only [amC, amR, evsA, evpA, elemsA, elemsP, sizedA, optA, refA, setO, Am.set, Am.get, AV.elem, AV.cells, AV.one, hsetL, hset, hget, loadAV, rowAt?, loadCells', faddrAV, binAV, fillA, storeAV, AV.putCells, AV.ref, List.foldl, List.all, List.map, List.set, List.take, List.drop, Option.getD, Option.map, if_true, if_false, Nat.reduceEqDiff, Nat.reduceAdd, Nat.reduceLT, Nat.reduceLeDiff, reduceCtorEq, ↓reduceIte, pickAV, lenAV, intAV, slcA, slcAV, iaddrAV, extAV, fldAV, eqCells, eqCell, contAV, appendAV, foldAV, maxI, minI, Option.some.injEq, catT, hk2']
          refine hK _ _ nofun ?_
          clear hK K
          refine CW.condF rfl (CW.exit ?_)
          show CW _ _ _ _ _ _
          have hz : xs.length - (j + 1) - k2 = 0 := by omega
          rw [hz] at q6
          simp only [compIn, zeroed] at q6
          have hkl : (k : Int) ≤ ((xs.length : Nat) : Int) := by omega
          have en2 : (((xs.length : Nat) : Int) - (k : Int)).toNat = xs.length - k := by omega
          have hfit : k + (xs.length - k) ≤ (ix ys).length := by rw [ix_length]; omega
          refine CW.rI fun K hK => ?_
          simp (maxSteps := 4000000) only [amC, amR, evsA, evpA, elemsA, elemsP, sizedA, optA, refA, setO, Am.set, Am.get, AV.elem, AV.cells, AV.one, hsetL, hset, hget, loadAV, rowAt?, loadCells', faddrAV, binAV, fillA, storeAV, AV.putCells, AV.ref, List.foldl, List.all, List.map, List.set, List.take, List.drop, Option.getD, Option.map, if_true, if_false, Nat.reduceEqDiff, Nat.reduceAdd, Nat.reduceLT, Nat.reduceLeDiff, reduceCtorEq, ↓reduceIte, pickAV, lenAV, intAV, slcA, slcAV, iaddrAV, extAV, fldAV, eqCells, eqCell, contAV, appendAV, foldAV, maxI, minI, Option.some.injEq, catT, hkl, Int.natCast_nonneg, Int.toNat_natCast, Int.le_refl, en2, clearAV, hfit, show (AV.int .i64 (0 : Int)).elem = true from rfl, show (AV.int .i64 (0 : Int)).cells.length = 1 from rfl, or_true]
          refine hK _ _ nofun ?_
          clear hK K
          refine CW.rI fun K hK => ?_
          simp (maxSteps := 4000000) only [amC, amR, evsA, evpA, elemsA, elemsP, sizedA, optA, refA, setO, Am.set, Am.get, AV.elem, AV.cells, AV.one, hsetL, hset, hget, loadAV, rowAt?, loadCells', faddrAV, binAV, fillA, storeAV, AV.putCells, AV.ref, List.foldl, List.all, List.map, List.set, List.take, List.drop, Option.getD, Option.map, if_true, if_false, Nat.reduceEqDiff, Nat.reduceAdd, Nat.reduceLT, Nat.reduceLeDiff, reduceCtorEq, ↓reduceIte, pickAV, lenAV, intAV, slcA, slcAV, iaddrAV, extAV, fldAV, eqCells, eqCell, contAV, appendAV, foldAV, maxI, minI, Option.some.injEq, catT, hkl, Int.natCast_nonneg, Int.toNat_natCast, Int.le_refl, Int.sub_zero, Int.toNat_zero]
          refine hK _ _ nofun ?_
          clear hK K
          have e1 : (ix ys).take k ++ List.replicate (xs.length - k) (AV.int .i64 0) ++ (ix ys).drop (k + (xs.length - k)) = ix (compact (sameB l) xs).1 := by
            rw [← q6]
            rw [List.drop_of_length_le (by rw [ix_length]; omega), List.append_nil, ix_take]
            simp [ix]
          have e2 : k = (compact (sameB l) xs).2 := by rw [← q6]
          exact CW.ret (finK_rows (.inr rfl) (xs := [.sl 0 g 0 (compact (sameB l) xs).2]) (by simp [resRV, Am.get, e2]) rfl rfl rfl (by simp) (by simp [← e1]) (fun b hb => by rw [List.mem_singleton.1 hb]; simp only [Blk.allR, allRL_ix]))
      · rw [if_neg he] at hkc
        have he' : eqP (l.getD (xs.getD (j + 1) 0) (0, 0)) (l.getD (xs.getD j 0) (0, 0)) = false := by simpa [sameB] using he
        rw [he']
        refine CW.condF rfl (CW.skip ?_)
        show CW _ _ _ _ _ _
        refine CW.rE fun K hK => ?_
        simp (maxSteps := 4000000) only [amC, amR, evsA, evpA, elemsA, elemsP, sizedA, optA, refA, setO, Am.set, Am.get, AV.elem, AV.cells, AV.one, hsetL, hset, hget, loadAV, rowAt?, loadCells', faddrAV, binAV, fillA, storeAV, AV.putCells, AV.ref, List.foldl, List.all, List.map, List.set, List.take, List.drop, Option.getD, Option.map, if_true, if_false, Nat.reduceEqDiff, Nat.reduceAdd, Nat.reduceLT, Nat.reduceLeDiff, reduceCtorEq, ↓reduceIte, pickAV, lenAV, intAV, slcA, slcAV, iaddrAV, extAV, fldAV, eqCells, eqCell, contAV, appendAV, foldAV, maxI, minI, Option.some.injEq, catT, wrap_nat (j + 1) (by omega)]
        refine hK _ _ nofun ?_
        clear hK K
        exact ⟨j + 1 + 1, by omega, ⟨by omega, by omega, hkc⟩, Fgt.mk' 1 (by simp) (by simp [keepB, Am.get, AV.lt, ltL, lt_pts]) rfl ⟨by simp only [Blk.lt, ltL_ix], trivial⟩⟩
    · refine CW.rI fun K hK => ?_
      simp (maxSteps := 4000000) only [amC, amR, evsA, evpA, elemsA, elemsP, sizedA, optA, refA, setO, Am.set, Am.get, AV.elem, AV.cells, AV.one, hsetL, hset, hget, loadAV, rowAt?, loadCells', faddrAV, binAV, fillA, storeAV, AV.putCells, AV.ref, List.foldl, List.all, List.map, List.set, List.take, List.drop, Option.getD, Option.map, if_true, if_false, Nat.reduceEqDiff, Nat.reduceAdd, Nat.reduceLT, Nat.reduceLeDiff, reduceCtorEq, ↓reduceIte, pickAV, lenAV, intAV, slcA, slcAV, iaddrAV, extAV, fldAV, eqCells, eqCell, contAV, appendAV, foldAV, maxI, minI, Option.some.injEq, catT, h]
      refine hK _ _ nofun ?_
      clear hK K
      refine CW.condF rfl (CW.exit ?_)
      show CW _ _ _ _ _ _
      have hz : xs.length - k = 0 := by omega
      rw [hz] at hkc
      simp only [compOut] at hkc
      rw [← hkc]
      refine CW.rI fun K hK => ?_
      simp (maxSteps := 4000000) only [amC, amR, evsA, evpA, elemsA, elemsP, sizedA, optA, refA, setO, Am.set, Am.get, AV.elem, AV.cells, AV.one, hsetL, hset, hget, loadAV, rowAt?, loadCells', faddrAV, binAV, fillA, storeAV, AV.putCells, AV.ref, List.foldl, List.all, List.map, List.set, List.take, List.drop, Option.getD, Option.map, if_true, if_false, Nat.reduceEqDiff, Nat.reduceAdd, Nat.reduceLT, Nat.reduceLeDiff, reduceCtorEq, ↓reduceIte, pickAV, lenAV, intAV, slcA, slcAV, iaddrAV, extAV, fldAV, eqCells, eqCell, contAV, appendAV, foldAV, maxI, minI, Option.some.injEq, catT]
      refine hK _ _ nofun ?_
      clear hK K
      exact CW.ret (finK_rows (.inr rfl) (xs := [.sl 0 g 0 xs.length]) (by simp [resRV, Am.get]) rfl rfl rfl (by simp) rfl (fun b hb => by rw [List.mem_singleton.1 hb]; simp only [Blk.allR, allRL_ix]))
end Go.Hull
