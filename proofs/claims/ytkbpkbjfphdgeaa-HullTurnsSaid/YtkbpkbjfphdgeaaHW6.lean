/- Sorting, and the order of points: walks.
   Conditions: fewer than twenty points. -/
import Derived.Test.YtkbpkbjfphdgeaaHW5
set_option linter.unusedSimpArgs false
set_option linter.unusedVariables false
set_option maxHeartbeats 2000000
namespace Go.Hull
open Go Go.Am Go.Proofs

theorem insort_length (lt : Nat → Nat → Bool) (xs : List Nat) : (insort lt xs).length = xs.length := by
  have : ∀ (k i : Nat) (ys : List Nat), (outer lt k i ys).length = ys.length := by
    intro k
    induction k with
    | zero => intro i ys; rfl
    | succ k ih => intro i ys; simp only [outer]; rw [ih, inner_length]
  exact this _ _ _

theorem flat_cl (l : List Pt) (f : Nat) : flatN true 5 (.clo f [.rp true [pts l]]) = true := by
  simp only [flatN, allB, flat_pts l 0]

theorem c114 (l : List Pt) (g : Nat) (xs : List Nat) (hx : ∀ x ∈ xs, x < l.length) (hn : xs.length < 20) :
    CallsF Try.prog 114 [.sl 0 g 0 xs.length, .int .i64 (xs.length : Int), .clo 105 [.rp true [pts l]]] [.row false g false 1 (ix xs)] (.tup []) [.row false g false 1 (ix (insort (lessB l) xs))] := by
  have h20 : ¬ (20 : Int) ≤ (xs.length : Int) := by omega
  have h20' : ¬ (20 : Int) < (xs.length : Int) := by omega
  refine callsF_cw hm hf114 (by simp [cf114]) ?_
  simp only [cf114, argsAl]
  refine CW.rI fun K hK => ?_
  simp (maxSteps := 4000000) only [amC, amR, evsA, evpA, elemsA, elemsP, sizedA, optA, refA, setO, Am.set, Am.get, AV.elem, AV.cells, AV.one, hsetL, hset, hget, loadAV, rowAt?, loadCells', faddrAV, binAV, fillA, storeAV, AV.putCells, AV.ref, List.foldl, List.all, List.map, List.set, List.take, List.drop, Option.getD, Option.map, if_true, if_false, Nat.reduceEqDiff, Nat.reduceAdd, Nat.reduceLT, Nat.reduceLeDiff, reduceCtorEq, ↓reduceIte, pickAV, lenAV, intAV, slcA, slcAV, iaddrAV, extAV, fldAV, eqCells, eqCell, contAV, appendAV, foldAV, maxI, minI, Option.some.injEq, catT]
  refine hK _ _ nofun ?_
  clear hK K
  refine CW.rI fun K hK => ?_
  simp (maxSteps := 4000000) only [amC, amR, evsA, evpA, elemsA, elemsP, sizedA, optA, refA, setO, Am.set, Am.get, AV.elem, AV.cells, AV.one, hsetL, hset, hget, loadAV, rowAt?, loadCells', faddrAV, binAV, fillA, storeAV, AV.putCells, AV.ref, List.foldl, List.all, List.map, List.set, List.take, List.drop, Option.getD, Option.map, if_true, if_false, Nat.reduceEqDiff, Nat.reduceAdd, Nat.reduceLT, Nat.reduceLeDiff, reduceCtorEq, ↓reduceIte, pickAV, lenAV, intAV, slcA, slcAV, iaddrAV, extAV, fldAV, eqCells, eqCell, contAV, appendAV, foldAV, maxI, minI, Option.some.injEq, catT]
  refine hK _ _ nofun ?_
  clear hK K
  refine CW.seq ?_
  refine CW.block ?_
  refine CW.loopF (fun _ : Unit => 0) (fun _ => ⟨[(0, .sl 0 g 0 xs.length), (1, .int .i64 (xs.length : Int)), (2, .clo 105 [.rp true [pts l]]), (6, .int .i64 20), (7, .int .i64 0), (8, .int .i64 20)], [.row false g false 1 (ix xs)]⟩) (fun _ => True) (fun _ _ => ?_) () trivial _ (Fgt.mk' 1 (by simp) (by simp [keepB, Am.get, AV.lt, ltL, lt_pts]) rfl ⟨by simp only [Blk.lt, ltL_ix], trivial⟩)
  refine CW.seq ?_
  refine CW.rI fun K hK => ?_
  simp (maxSteps := 4000000) only [amC, amR, evsA, evpA, elemsA, elemsP, sizedA, optA, refA, setO, Am.set, Am.get, AV.elem, AV.cells, AV.one, hsetL, hset, hget, loadAV, rowAt?, loadCells', faddrAV, binAV, fillA, storeAV, AV.putCells, AV.ref, List.foldl, List.all, List.map, List.set, List.take, List.drop, Option.getD, Option.map, if_true, if_false, Nat.reduceEqDiff, Nat.reduceAdd, Nat.reduceLT, Nat.reduceLeDiff, reduceCtorEq, ↓reduceIte, pickAV, lenAV, intAV, slcA, slcAV, iaddrAV, extAV, fldAV, eqCells, eqCell, contAV, appendAV, foldAV, maxI, minI, Option.some.injEq, catT, h20]
  refine hK _ _ nofun ?_
  clear hK K
  refine CW.condF rfl (CW.exit ?_)
  show CW _ _ _ _ _ _
  refine CW.rI fun K hK => ?_
  simp (maxSteps := 4000000) only [amC, amR, evsA, evpA, elemsA, elemsP, sizedA, optA, refA, setO, Am.set, Am.get, AV.elem, AV.cells, AV.one, hsetL, hset, hget, loadAV, rowAt?, loadCells', faddrAV, binAV, fillA, storeAV, AV.putCells, AV.ref, List.foldl, List.all, List.map, List.set, List.take, List.drop, Option.getD, Option.map, if_true, if_false, Nat.reduceEqDiff, Nat.reduceAdd, Nat.reduceLT, Nat.reduceLeDiff, reduceCtorEq, ↓reduceIte, pickAV, lenAV, intAV, slcA, slcAV, iaddrAV, extAV, fldAV, eqCells, eqCell, contAV, appendAV, foldAV, maxI, minI, Option.some.injEq, catT]
  refine RunCall.one (fid := 127) (caps := []) rfl rfl (b := 0) (.cons (.row g 0 xs.length) (.cons (.flat rfl) (.cons (.flat rfl) (.cons (.flat (flat_cl l 105)) .nil)))) (c127 l g xs hx (by omega)) (by simp) rfl (by simp only [Blk.lt, ltL_ix]) rfl (by simp only [Blk.lt, ltL_ix]) (by simp only [Blk.clean, cleanL_ix]) ?_
  simp (maxSteps := 4000000) only [amC, amR, evsA, evpA, elemsA, elemsP, sizedA, optA, refA, setO, Am.set, Am.get, AV.elem, AV.cells, AV.one, hsetL, hset, hget, loadAV, rowAt?, loadCells', faddrAV, binAV, fillA, storeAV, AV.putCells, AV.ref, List.foldl, List.all, List.map, List.set, List.take, List.drop, Option.getD, Option.map, if_true, if_false, Nat.reduceEqDiff, Nat.reduceAdd, Nat.reduceLT, Nat.reduceLeDiff, reduceCtorEq, ↓reduceIte, pickAV, lenAV, intAV, slcA, slcAV, iaddrAV, extAV, fldAV, eqCells, eqCell, contAV, appendAV, foldAV, maxI, minI, Option.some.injEq, catT]
  refine hK _ _ nofun ?_
  clear hK K
  refine CW.block ?_
  refine CW.loopF (fun _ : Unit => 0) (fun _ => ⟨[(0, .sl 0 g 0 xs.length), (1, .int .i64 (xs.length : Int)), (2, .clo 105 [.rp true [pts l]]), (6, .int .i64 20), (7, .int .i64 0), (8, .int .i64 20)], [.row false g false 1 (ix (insort (lessB l) xs))]⟩) (fun _ => True) (fun _ _ => ?_) () trivial _ (Fgt.mk' 1 (by simp) (by simp [keepB, Am.get, AV.lt, ltL, lt_pts]) rfl ⟨by simp only [Blk.lt, ltL_ix], trivial⟩)
  refine CW.seq ?_
  refine CW.rI fun K hK => ?_
  simp (maxSteps := 4000000) only [amC, amR, evsA, evpA, elemsA, elemsP, sizedA, optA, refA, setO, Am.set, Am.get, AV.elem, AV.cells, AV.one, hsetL, hset, hget, loadAV, rowAt?, loadCells', faddrAV, binAV, fillA, storeAV, AV.putCells, AV.ref, List.foldl, List.all, List.map, List.set, List.take, List.drop, Option.getD, Option.map, if_true, if_false, Nat.reduceEqDiff, Nat.reduceAdd, Nat.reduceLT, Nat.reduceLeDiff, reduceCtorEq, ↓reduceIte, pickAV, lenAV, intAV, slcA, slcAV, iaddrAV, extAV, fldAV, eqCells, eqCell, contAV, appendAV, foldAV, maxI, minI, Option.some.injEq, catT, h20']
  refine hK _ _ nofun ?_
  clear hK K
  refine CW.condF rfl (CW.exit ?_)
  exact finK_keep (.inl rfl) (xs := []) rfl rfl rfl (by simp) rfl (fun b hb => by rw [List.mem_singleton.1 hb]; simp only [Blk.allR, allRL_ix])

theorem c104 (l : List Pt) (g : Nat) (xs : List Nat) (hx : ∀ x ∈ xs, x < l.length) (hn : xs.length < 20) :
    CallsF Try.prog 104 [.sl 0 g 0 xs.length, .clo 105 [.rp true [pts l]]] [.row false g false 1 (ix xs)] (.tup []) [.row false g false 1 (ix (insort (lessB l) xs))] := by
  refine callsF_cw hm hf104 (by simp [cf104]) ?_
  simp only [cf104, argsAl]
  refine CW.rE fun K hK => ?_
  simp (maxSteps := 4000000) only [amC, amR, evsA, evpA, elemsA, elemsP, sizedA, optA, refA, setO, Am.set, Am.get, AV.elem, AV.cells, AV.one, hsetL, hset, hget, loadAV, rowAt?, loadCells', faddrAV, binAV, fillA, storeAV, AV.putCells, AV.ref, List.foldl, List.all, List.map, List.set, List.take, List.drop, Option.getD, Option.map, if_true, if_false, Nat.reduceEqDiff, Nat.reduceAdd, Nat.reduceLT, Nat.reduceLeDiff, reduceCtorEq, ↓reduceIte, pickAV, lenAV, intAV, slcA, slcAV, iaddrAV, extAV, fldAV, eqCells, eqCell, contAV, appendAV, foldAV, maxI, minI, Option.some.injEq, catT]
  refine RunCall.one (fid := 114) (caps := []) rfl rfl (b := 0) (.cons (.row g 0 xs.length) (.cons (.flat rfl) (.cons (.flat (flat_cl l 105)) .nil))) (c114 l g xs hx hn) (by simp) rfl (by simp only [Blk.lt, ltL_ix]) rfl (by simp only [Blk.lt, ltL_ix]) (by simp only [Blk.clean, cleanL_ix]) ?_
  simp (maxSteps := 4000000) only [amC, amR, evsA, evpA, elemsA, elemsP, sizedA, optA, refA, setO, Am.set, Am.get, AV.elem, AV.cells, AV.one, hsetL, hset, hget, loadAV, rowAt?, loadCells', faddrAV, binAV, fillA, storeAV, AV.putCells, AV.ref, List.foldl, List.all, List.map, List.set, List.take, List.drop, Option.getD, Option.map, if_true, if_false, Nat.reduceEqDiff, Nat.reduceAdd, Nat.reduceLT, Nat.reduceLeDiff, reduceCtorEq, ↓reduceIte, pickAV, lenAV, intAV, slcA, slcAV, iaddrAV, extAV, fldAV, eqCells, eqCell, contAV, appendAV, foldAV, maxI, minI, Option.some.injEq, catT]
  refine hK _ _ nofun ?_
  clear hK K
  exact finK_keep (.inl rfl) (xs := []) rfl rfl rfl (by simp) rfl (fun b hb => by rw [List.mem_singleton.1 hb]; simp only [Blk.allR, allRL_ix])

/-- The numbers of a list's points, in the points' order. -/
def orderI (l : List Pt) : List Nat := insort (lessB l) (List.range l.length)

theorem ix_replicate (n : Nat) : List.replicate n (AV.int .i64 0) = ix (List.replicate n 0) := by simp [ix]

theorem range_set {n i : Nat} (h : i < n) : (List.range i ++ List.replicate (n - i) 0).set i i = List.range (i + 1) ++ List.replicate (n - (i + 1)) 0 := by
  rw [List.set_append_right _ _ (by simp)]
  simp only [List.length_range, Nat.sub_self]
  have : n - i = (n - (i + 1)) + 1 := by omega
  rw [this, List.replicate_succ, List.set_cons_zero, List.range_succ, List.append_assoc]
  rfl

theorem c83 (l : List Pt) (hn : l.length < 20) (hok : chk l = 0) : CallsF Try.prog 83 [pts l] [] (.tup [.sl 0 0 0 l.length, .int .i64 0]) [.row false 0 false 1 (ix (orderI l))] := by
  have hb : l.length * 8 ≤ appBound := by unfold appBound; omega
  refine callsF_cw hm hf83 (by simp [cf83]) ?_
  simp only [cf83, argsAl]
  refine CW.rI fun K hK => ?_
  simp (maxSteps := 4000000) only [amC, amR, evsA, evpA, elemsA, elemsP, sizedA, optA, refA, setO, Am.set, Am.get, AV.elem, AV.cells, AV.one, hsetL, hset, hget, loadAV, rowAt?, loadCells', faddrAV, binAV, fillA, storeAV, AV.putCells, AV.ref, List.foldl, List.all, List.map, List.set, List.take, List.drop, Option.getD, Option.map, if_true, if_false, Nat.reduceEqDiff, Nat.reduceAdd, Nat.reduceLT, Nat.reduceLeDiff, reduceCtorEq, ↓reduceIte, pickAV, lenAV, intAV, slcA, slcAV, iaddrAV, extAV, fldAV, eqCells, eqCell, contAV, appendAV, foldAV, maxI, minI, Option.some.injEq, catT, AV.elem, AV.cells, AV.one, pts, List.all_cons, List.all_nil]
  refine hK _ _ nofun ?_
  clear hK K
  refine CW.seq ?_
  refine CW.rI fun K hK => ?_
  simp (maxSteps := 4000000) only [amC, amR, evsA, evpA, elemsA, elemsP, sizedA, optA, refA, setO, Am.set, Am.get, AV.elem, AV.cells, AV.one, hsetL, hset, hget, loadAV, rowAt?, loadCells', faddrAV, binAV, fillA, storeAV, AV.putCells, AV.ref, List.foldl, List.all, List.map, List.set, List.take, List.drop, Option.getD, Option.map, if_true, if_false, Nat.reduceEqDiff, Nat.reduceAdd, Nat.reduceLT, Nat.reduceLeDiff, reduceCtorEq, ↓reduceIte, pickAV, lenAV, intAV, slcA, slcAV, iaddrAV, extAV, fldAV, eqCells, eqCell, contAV, appendAV, foldAV, maxI, minI, Option.some.injEq, catT, AV.cells]
  refine RunCall.view (fid := 50) (caps := []) rfl rfl (viewArgs_flat1 (flat_pts l 2)) (c50 l (by omega)) rfl ?_
  simp (maxSteps := 4000000) only [amC, amR, evsA, evpA, elemsA, elemsP, sizedA, optA, refA, setO, Am.set, Am.get, AV.elem, AV.cells, AV.one, hsetL, hset, hget, loadAV, rowAt?, loadCells', faddrAV, binAV, fillA, storeAV, AV.putCells, AV.ref, List.foldl, List.all, List.map, List.set, List.take, List.drop, Option.getD, Option.map, if_true, if_false, Nat.reduceEqDiff, Nat.reduceAdd, Nat.reduceLT, Nat.reduceLeDiff, reduceCtorEq, ↓reduceIte, pickAV, lenAV, intAV, slcA, slcAV, iaddrAV, extAV, fldAV, eqCells, eqCell, contAV, appendAV, foldAV, maxI, minI, Option.some.injEq, catT, hok]
  refine hK _ _ nofun ?_
  clear hK K
  refine CW.rI fun K hK => ?_
  simp (maxSteps := 4000000) only [amC, amR, evsA, evpA, elemsA, elemsP, sizedA, optA, refA, setO, Am.set, Am.get, AV.elem, AV.cells, AV.one, hsetL, hset, hget, loadAV, rowAt?, loadCells', faddrAV, binAV, fillA, storeAV, AV.putCells, AV.ref, List.foldl, List.all, List.map, List.set, List.take, List.drop, Option.getD, Option.map, if_true, if_false, Nat.reduceEqDiff, Nat.reduceAdd, Nat.reduceLT, Nat.reduceLeDiff, reduceCtorEq, ↓reduceIte, pickAV, lenAV, intAV, slcA, slcAV, iaddrAV, extAV, fldAV, eqCells, eqCell, contAV, appendAV, foldAV, maxI, minI, Option.some.injEq, catT, show ((0 : Int) != 0) = false from rfl]
  refine hK _ _ nofun ?_
  clear hK K
  refine CW.condF rfl (CW.skip ?_)
  show CW _ _ _ _ _ _
  refine CW.rI fun K hK => ?_
  simp (maxSteps := 4000000) only [amC, amR, evsA, evpA, elemsA, elemsP, sizedA, optA, refA, setO, Am.set, Am.get, AV.elem, AV.cells, AV.one, hsetL, hset, hget, loadAV, rowAt?, loadCells', faddrAV, binAV, fillA, storeAV, AV.putCells, AV.ref, List.foldl, List.all, List.map, List.set, List.take, List.drop, Option.getD, Option.map, if_true, if_false, Nat.reduceEqDiff, Nat.reduceAdd, Nat.reduceLT, Nat.reduceLeDiff, reduceCtorEq, ↓reduceIte, pickAV, lenAV, intAV, slcA, slcAV, iaddrAV, extAV, fldAV, eqCells, eqCell, contAV, appendAV, foldAV, maxI, minI, Option.some.injEq, catT, AV.cells, List.length_map, Int.natCast_nonneg, Int.toNat_natCast, hb, show (AV.int .i64 0).elem = true from rfl, ix_replicate]
  refine hK _ _ nofun ?_
  clear hK K
  refine CW.seq ?_
  refine CW.rI fun K hK => ?_
  simp (maxSteps := 4000000) only [amC, amR, evsA, evpA, elemsA, elemsP, sizedA, optA, refA, setO, Am.set, Am.get, AV.elem, AV.cells, AV.one, hsetL, hset, hget, loadAV, rowAt?, loadCells', faddrAV, binAV, fillA, storeAV, AV.putCells, AV.ref, List.foldl, List.all, List.map, List.set, List.take, List.drop, Option.getD, Option.map, if_true, if_false, Nat.reduceEqDiff, Nat.reduceAdd, Nat.reduceLT, Nat.reduceLeDiff, reduceCtorEq, ↓reduceIte, pickAV, lenAV, intAV, slcA, slcAV, iaddrAV, extAV, fldAV, eqCells, eqCell, contAV, appendAV, foldAV, maxI, minI, Option.some.injEq, catT]
  refine hK _ _ nofun ?_
  clear hK K
  refine CW.block ?_
  refine CW.loopF (fun i => l.length - i) (fun i => ⟨[(0, pts l), (1, .ptr 0 0 0 0), (5, .sl 2 0 0 l.length), (15, .sl 2 0 0 l.length), (16, .int .i64 (l.length : Int)), (17, .int .i64 (i : Nat))], [.row false 0 false 1 [pts l], .row true 0 false 1 [], .row false 0 false 1 (ix (List.range i ++ List.replicate (l.length - i) 0))]⟩) (fun i => i ≤ l.length) (fun i hi => ?_) 0 (Nat.zero_le _) _
    (Fgt.mk' 3 (by simp) (by simp [keepB, Am.get, AV.lt, ltL, lt_pts, pts, ltL_pt]) (by simp [pts]) ⟨by simp only [Blk.lt, ltL, lt_pts, Bool.and_self], rfl, by simp only [Blk.lt, ltL_ix], trivial⟩)
  by_cases h2 : (i : Int) < (l.length : Int)
  · have hi' : i < l.length := by omega
    have hlen : i < (List.range i ++ List.replicate (l.length - i) 0).length := by simp; omega
    refine CW.rI fun K hK => ?_
    simp (maxSteps := 4000000) only [amC, amR, evsA, evpA, elemsA, elemsP, sizedA, optA, refA, setO, Am.set, Am.get, AV.elem, AV.cells, AV.one, hsetL, hset, hget, loadAV, rowAt?, loadCells', faddrAV, binAV, fillA, storeAV, AV.putCells, AV.ref, List.foldl, List.all, List.map, List.set, List.take, List.drop, Option.getD, Option.map, if_true, if_false, Nat.reduceEqDiff, Nat.reduceAdd, Nat.reduceLT, Nat.reduceLeDiff, reduceCtorEq, ↓reduceIte, pickAV, lenAV, intAV, slcA, slcAV, iaddrAV, extAV, fldAV, eqCells, eqCell, contAV, appendAV, foldAV, maxI, minI, Option.some.injEq, catT, h2]
    refine hK _ _ nofun ?_
    clear hK K
    refine CW.seq ?_
    refine CW.condT rfl (CW.skip ?_)
    show CW _ _ _ _ _ _
    refine CW.seq ?_
    refine CW.block ?_
    refine CW.rI fun K hK => ?_
    simp (maxSteps := 4000000) only [amC, amR, evsA, evpA, elemsA, elemsP, sizedA, optA, refA, setO, Am.set, Am.get, AV.elem, AV.cells, AV.one, hsetL, hset, hget, loadAV, rowAt?, loadCells', faddrAV, binAV, fillA, storeAV, AV.putCells, AV.ref, List.foldl, List.all, List.map, List.set, List.take, List.drop, Option.getD, Option.map, if_true, if_false, Nat.reduceEqDiff, Nat.reduceAdd, Nat.reduceLT, Nat.reduceLeDiff, reduceCtorEq, ↓reduceIte, pickAV, lenAV, intAV, slcA, slcAV, iaddrAV, extAV, fldAV, eqCells, eqCell, contAV, appendAV, foldAV, maxI, minI, Option.some.injEq, catT]
    refine hK _ _ nofun ?_
    clear hK K
    refine CW.rE fun K hK => ?_
    simp (maxSteps := 4000000) only [amC, amR, evsA, evpA, elemsA, elemsP, sizedA, optA, refA, setO, Am.set, Am.get, AV.elem, AV.cells, AV.one, hsetL, hset, hget, loadAV, rowAt?, loadCells', faddrAV, binAV, fillA, storeAV, AV.putCells, AV.ref, List.foldl, List.all, List.map, List.set, List.take, List.drop, Option.getD, Option.map, if_true, if_false, Nat.reduceEqDiff, Nat.reduceAdd, Nat.reduceLT, Nat.reduceLeDiff, reduceCtorEq, ↓reduceIte, pickAV, lenAV, intAV, slcA, slcAV, iaddrAV, extAV, fldAV, eqCells, eqCell, contAV, appendAV, foldAV, maxI, minI, Option.some.injEq, catT, h2, Int.natCast_nonneg, Int.toNat_natCast, ix_get _ hlen, AV.cells, AV.elem, AV.one, List.all_cons, List.all_nil, ix_set, range_set hi']
    refine hK _ _ nofun ?_
    clear hK K
    refine CW.rE fun K hK => ?_
    simp (maxSteps := 4000000) only [amC, amR, evsA, evpA, elemsA, elemsP, sizedA, optA, refA, setO, Am.set, Am.get, AV.elem, AV.cells, AV.one, hsetL, hset, hget, loadAV, rowAt?, loadCells', faddrAV, binAV, fillA, storeAV, AV.putCells, AV.ref, List.foldl, List.all, List.map, List.set, List.take, List.drop, Option.getD, Option.map, if_true, if_false, Nat.reduceEqDiff, Nat.reduceAdd, Nat.reduceLT, Nat.reduceLeDiff, reduceCtorEq, ↓reduceIte, pickAV, lenAV, intAV, slcA, slcAV, iaddrAV, extAV, fldAV, eqCells, eqCell, contAV, appendAV, foldAV, maxI, minI, Option.some.injEq, catT, wrap_nat i (by omega)]
    refine hK _ _ nofun ?_
    clear hK K
    exact ⟨i + 1, by omega, by omega, Fgt.mk' 3 (by simp) (by simp [keepB, Am.get, AV.lt, ltL, lt_pts]) rfl ⟨by simp only [Blk.lt, ltL, lt_pts, Bool.and_self], rfl, by simp only [Blk.lt, ltL_ix], trivial⟩⟩
  · have hil : i = l.length := by omega
    subst hil
    refine CW.rI fun K hK => ?_
    simp (maxSteps := 4000000) only [amC, amR, evsA, evpA, elemsA, elemsP, sizedA, optA, refA, setO, Am.set, Am.get, AV.elem, AV.cells, AV.one, hsetL, hset, hget, loadAV, rowAt?, loadCells', faddrAV, binAV, fillA, storeAV, AV.putCells, AV.ref, List.foldl, List.all, List.map, List.set, List.take, List.drop, Option.getD, Option.map, if_true, if_false, Nat.reduceEqDiff, Nat.reduceAdd, Nat.reduceLT, Nat.reduceLeDiff, reduceCtorEq, ↓reduceIte, pickAV, lenAV, intAV, slcA, slcAV, iaddrAV, extAV, fldAV, eqCells, eqCell, contAV, appendAV, foldAV, maxI, minI, Option.some.injEq, catT, h2]
    refine hK _ _ nofun ?_
    clear hK K
    refine CW.seq ?_
    refine CW.condF rfl (CW.exit ?_)
    show CW _ _ _ _ _ _
    have hc := c104 l 0 (List.range l.length) (fun x hx => List.mem_range.1 hx) (by simpa using hn)
    rw [List.length_range] at hc
    refine CW.rI fun K hK => ?_
    simp (maxSteps := 4000000) only [amC, amR, evsA, evpA, elemsA, elemsP, sizedA, optA, refA, setO, Am.set, Am.get, AV.elem, AV.cells, AV.one, hsetL, hset, hget, loadAV, rowAt?, loadCells', faddrAV, binAV, fillA, storeAV, AV.putCells, AV.ref, List.foldl, List.all, List.map, List.set, List.take, List.drop, Option.getD, Option.map, if_true, if_false, Nat.reduceEqDiff, Nat.reduceAdd, Nat.reduceLT, Nat.reduceLeDiff, reduceCtorEq, ↓reduceIte, pickAV, lenAV, intAV, slcA, slcAV, iaddrAV, extAV, fldAV, eqCells, eqCell, contAV, appendAV, foldAV, maxI, minI, Option.some.injEq, catT, Nat.sub_self, List.replicate_zero]
    refine RunCall.one (fid := 104) (caps := []) rfl rfl (b := 2) (X := [.sl 2 0 0 l.length, .clo 105 [.ptr 0 0 0 0]]) (args := [.sl 0 0 0 l.length, .clo 105 [.rp true [pts l]]]) (.cons (.row 0 0 l.length) (.cons (.view (viewG_clo rfl (flat_pts l 2) rfl) rfl) .nil)) hc (by simp) rfl (by simp only [Blk.lt, ltL_ix]) rfl (by simp only [Blk.lt, ltL_ix]) (by simp only [Blk.clean, cleanL_ix]) ?_
    simp (maxSteps := 4000000) only [amC, amR, evsA, evpA, elemsA, elemsP, sizedA, optA, refA, setO, Am.set, Am.get, AV.elem, AV.cells, AV.one, hsetL, hset, hget, loadAV, rowAt?, loadCells', faddrAV, binAV, fillA, storeAV, AV.putCells, AV.ref, List.foldl, List.all, List.map, List.set, List.take, List.drop, Option.getD, Option.map, if_true, if_false, Nat.reduceEqDiff, Nat.reduceAdd, Nat.reduceLT, Nat.reduceLeDiff, reduceCtorEq, ↓reduceIte, pickAV, lenAV, intAV, slcA, slcAV, iaddrAV, extAV, fldAV, eqCells, eqCell, contAV, appendAV, foldAV, maxI, minI, Option.some.injEq, catT]
    refine hK _ _ nofun ?_
    clear hK K
    refine CW.rI fun K hK => ?_
    simp (maxSteps := 4000000) only [amC, amR, evsA, evpA, elemsA, elemsP, sizedA, optA, refA, setO, Am.set, Am.get, AV.elem, AV.cells, AV.one, hsetL, hset, hget, loadAV, rowAt?, loadCells', faddrAV, binAV, fillA, storeAV, AV.putCells, AV.ref, List.foldl, List.all, List.map, List.set, List.take, List.drop, Option.getD, Option.map, if_true, if_false, Nat.reduceEqDiff, Nat.reduceAdd, Nat.reduceLT, Nat.reduceLeDiff, reduceCtorEq, ↓reduceIte, pickAV, lenAV, intAV, slcA, slcAV, iaddrAV, extAV, fldAV, eqCells, eqCell, contAV, appendAV, foldAV, maxI, minI, Option.some.injEq, catT]
    refine hK _ _ nofun ?_
    clear hK K
    refine CW.ret (finK_new (.inr rfl) (xs := [.sl 2 0 0 l.length, .int .i64 0]) (b := 2) (g := 0) (by simp [resRV, Am.get]) rfl (allRL_ix _ _ _) rfl ?_)
    simp [tupAV, AV.mapR, mapRL, sigF]
end Go.Hull
