/- Sorting, and the order of points: walks.
   Conditions: fewer than twenty points. -/
import Derived.Test.YtkbpkbjfphdgeaaPart9
section
set_option linter.unusedSimpArgs false
set_option linter.unusedVariables false
set_option maxHeartbeats 2000000
namespace Go.Hull
open Go Go.Am Go.Proofs

theorem insort_length (lt : Nat → Nat → Bool) (xs : List Nat) : (insort lt xs).length = xs.length := by
  have : ∀ (k i : Nat) (ys : List Nat), (outer lt k i ys).length = ys.length := by
    intro k
    induction k with
    | zero => intro i ys; rfl
    | succ k ih => intro i ys; simp only [outer]; rw [ih, inner_length]
  exact this _ _ _
theorem flat_cl (l : List Pt) (f : Nat) : flatN true 5 (.clo f [.rp true [pts l]]) = true := by
  simp only [flatN, allB, flat_pts l 0]
theorem c114 (l : List Pt) (g : Nat) (xs : List Nat) (hx : ∀ x ∈ xs, x < l.length) (hn : xs.length < 20) :
    CallsF Try.prog 114 [.sl 0 g 0 xs.length, .int .i64 (xs.length : Int), .clo 105 [.rp true [pts l]]] [.row false g false 1 (ix xs)] (.tup []) [.row false g false 1 (ix (insort (lessB l) xs))] := by
  have h20 : ¬ (20 : Int) ≤ (xs.length : Int) := by omega
  have h20' : ¬ (20 : Int) < (xs.length : Int) := by omega
  refine callsF_cw hm hf114 (by simp [cf114]) ?_
  simp only [cf114, argsAl]
  refine CW.rI fun K hK => ?_
  simp (maxSteps := 4000000) only [amC, amR, setO, Am.set, dr3, dr4, AV.elem, AV.cells, AV.one, loadAV, faddrAV, binAV, storeAV, AV.putCells, AV.ref, if_true, if_false, Nat.reduceEqDiff, Nat.reduceAdd, Nat.reduceLT, Nat.reduceLeDiff, reduceCtorEq, ↓reduceIte, pickAV, lenAV, intAV, slcA, slcAV, iaddrAV, extAV, fldAV, eqCell, contAV, appendAV, maxI, minI, Option.some.injEq, catT]
  refine hK _ _ nofun ?_
  clear hK K
  refine CW.rI fun K hK => ?_
  simp (maxSteps := 4000000) only [amC, amR, setO, Am.set, dr3, dr4, AV.elem, AV.cells, AV.one, loadAV, faddrAV, binAV, storeAV, AV.putCells, AV.ref, if_true, if_false, Nat.reduceEqDiff, Nat.reduceAdd, Nat.reduceLT, Nat.reduceLeDiff, reduceCtorEq, ↓reduceIte, pickAV, lenAV, intAV, slcA, slcAV, iaddrAV, extAV, fldAV, eqCell, contAV, appendAV, maxI, minI, Option.some.injEq, catT]
  refine hK _ _ nofun ?_
  clear hK K
  refine CW.seq ?_
  refine CW.block ?_
  refine CW.loopF (fun _ : Unit => 0) (fun _ => ⟨[(0, .sl 0 g 0 xs.length), (1, .int .i64 (xs.length : Int)), (2, .clo 105 [.rp true [pts l]]), (6, .int .i64 20), (7, .int .i64 0), (8, .int .i64 20)], [.row false g false 1 (ix xs)]⟩) (fun _ => True) (fun _ _ => ?_) () trivial _ (Fgt.mk' 1 (by simp) (by simp [keepB, Am.get, AV.lt, ltL, lt_pts]) rfl ⟨by simp only [Blk.lt, ltL_ix], trivial⟩)
  refine CW.seq ?_
  refine CW.rI fun K hK => ?_
  simp (maxSteps := 4000000) only [amC, amR, setO, Am.set, dr3, dr4, AV.elem, AV.cells, AV.one, loadAV, faddrAV, binAV, storeAV, AV.putCells, AV.ref, if_true, if_false, Nat.reduceEqDiff, Nat.reduceAdd, Nat.reduceLT, Nat.reduceLeDiff, reduceCtorEq, ↓reduceIte, pickAV, lenAV, intAV, slcA, slcAV, iaddrAV, extAV, fldAV, eqCell, contAV, appendAV, maxI, minI, Option.some.injEq, catT, h20]
  refine hK _ _ nofun ?_
  clear hK K
  refine CW.condF rfl (CW.exit ?_)
  show CW _ _ _ _ _ _
  refine CW.rI fun K hK => ?_
  simp (maxSteps := 4000000) only [amC, amR, setO, Am.set, dr3, dr4, AV.elem, AV.cells, AV.one, loadAV, faddrAV, binAV, storeAV, AV.putCells, AV.ref, if_true, if_false, Nat.reduceEqDiff, Nat.reduceAdd, Nat.reduceLT, Nat.reduceLeDiff, reduceCtorEq, ↓reduceIte, pickAV, lenAV, intAV, slcA, slcAV, iaddrAV, extAV, fldAV, eqCell, contAV, appendAV, maxI, minI, Option.some.injEq, catT]
  refine RunCall.one (fid := 127) (caps := []) rfl rfl (b := 0) (.cons (.row g 0 xs.length) (.cons (.flat rfl) (.cons (.flat rfl) (.cons (.flat (flat_cl l 105)) .nil)))) (c127 l g xs hx (by omega)) (by simp) rfl (by simp only [Blk.lt, ltL_ix]) rfl (by simp only [Blk.lt, ltL_ix]) (by simp only [Blk.clean, cleanL_ix]) ?_
  simp (maxSteps := 4000000) only [amC, amR, setO, Am.set, dr3, dr4, AV.elem, AV.cells, AV.one, loadAV, faddrAV, binAV, storeAV, AV.putCells, AV.ref, if_true, if_false, Nat.reduceEqDiff, Nat.reduceAdd, Nat.reduceLT, Nat.reduceLeDiff, reduceCtorEq, ↓reduceIte, pickAV, lenAV, intAV, slcA, slcAV, iaddrAV, extAV, fldAV, eqCell, contAV, appendAV, maxI, minI, Option.some.injEq, catT]
  refine hK _ _ nofun ?_
  clear hK K
  refine CW.block ?_
  refine CW.loopF (fun _ : Unit => 0) (fun _ => ⟨[(0, .sl 0 g 0 xs.length), (1, .int .i64 (xs.length : Int)), (2, .clo 105 [.rp true [pts l]]), (6, .int .i64 20), (7, .int .i64 0), (8, .int .i64 20)], [.row false g false 1 (ix (insort (lessB l) xs))]⟩) (fun _ => True) (fun _ _ => ?_) () trivial _ (Fgt.mk' 1 (by simp) (by simp [keepB, Am.get, AV.lt, ltL, lt_pts]) rfl ⟨by simp only [Blk.lt, ltL_ix], trivial⟩)
  refine CW.seq ?_
  refine CW.rI fun K hK => ?_
  simp (maxSteps := 4000000) only [amC, amR, setO, Am.set, dr3, dr4, AV.elem, AV.cells, AV.one, loadAV, faddrAV, binAV, storeAV, AV.putCells, AV.ref, if_true, if_false, Nat.reduceEqDiff, Nat.reduceAdd, Nat.reduceLT, Nat.reduceLeDiff, reduceCtorEq, ↓reduceIte, pickAV, lenAV, intAV, slcA, slcAV, iaddrAV, extAV, fldAV, eqCell, contAV, appendAV, maxI, minI, Option.some.injEq, catT, h20']
  refine hK _ _ nofun ?_
  clear hK K
  refine CW.condF rfl (CW.exit ?_)
  exact finK_keep (.inl rfl) (xs := []) rfl rfl rfl (by simp) rfl (fun b hb => by rw [List.mem_singleton.1 hb]; simp only [Blk.allR, allRL_ix])
theorem c104 (l : List Pt) (g : Nat) (xs : List Nat) (hx : ∀ x ∈ xs, x < l.length) (hn : xs.length < 20) :
    CallsF Try.prog 104 [.sl 0 g 0 xs.length, .clo 105 [.rp true [pts l]]] [.row false g false 1 (ix xs)] (.tup []) [.row false g false 1 (ix (insort (lessB l) xs))] := by
  refine callsF_cw hm hf104 (by simp [cf104]) ?_
  simp only [cf104, argsAl]
  refine CW.rE fun K hK => ?_
  simp (maxSteps := 4000000) only [amC, amR, setO, Am.set, dr3, dr4, AV.elem, AV.cells, AV.one, loadAV, faddrAV, binAV, storeAV, AV.putCells, AV.ref, if_true, if_false, Nat.reduceEqDiff, Nat.reduceAdd, Nat.reduceLT, Nat.reduceLeDiff, reduceCtorEq, ↓reduceIte, pickAV, lenAV, intAV, slcA, slcAV, iaddrAV, extAV, fldAV, eqCell, contAV, appendAV, maxI, minI, Option.some.injEq, catT]
  refine RunCall.one (fid := 114) (caps := []) rfl rfl (b := 0) (.cons (.row g 0 xs.length) (.cons (.flat rfl) (.cons (.flat (flat_cl l 105)) .nil))) (c114 l g xs hx hn) (by simp) rfl (by simp only [Blk.lt, ltL_ix]) rfl (by simp only [Blk.lt, ltL_ix]) (by simp only [Blk.clean, cleanL_ix]) ?_
  simp (maxSteps := 4000000) only [amC, amR, setO, Am.set, dr3, dr4, AV.elem, AV.cells, AV.one, loadAV, faddrAV, binAV, storeAV, AV.putCells, AV.ref, if_true, if_false, Nat.reduceEqDiff, Nat.reduceAdd, Nat.reduceLT, Nat.reduceLeDiff, reduceCtorEq, ↓reduceIte, pickAV, lenAV, intAV, slcA, slcAV, iaddrAV, extAV, fldAV, eqCell, contAV, appendAV, maxI, minI, Option.some.injEq, catT]
  refine hK _ _ nofun ?_
  clear hK K
  exact finK_keep (.inl rfl) (xs := []) rfl rfl rfl (by simp) rfl (fun b hb => by rw [List.mem_singleton.1 hb]; simp only [Blk.allR, allRL_ix])
/-- The numbers of a list's points, in the points' order. -/
def orderI (l : List Pt) : List Nat := insort (lessB l) (List.range l.length)
theorem ix_replicate (n : Nat) : List.replicate n (AV.int .i64 0) = ix (List.replicate n 0) := by simp [ix]
theorem range_set {n i : Nat} (h : i < n) : (List.range i ++ List.replicate (n - i) 0).set i i = List.range (i + 1) ++ List.replicate (n - (i + 1)) 0 := by
  rw [List.set_append_right _ _ (by simp)]
  simp only [List.length_range, Nat.sub_self]
  have : n - i = (n - (i + 1)) + 1 := by omega
  rw [this, List.replicate_succ, List.set_cons_zero, List.range_succ, List.append_assoc]
  rfl
theorem c83 (l : List Pt) (hn : l.length < 20) (hok : chk l = 0) : CallsF Try.prog 83 [pts l] [] (.tup [.sl 0 0 0 l.length, .int .i64 0]) [.row false 0 false 1 (ix (orderI l))] := by
  have hb : l.length * 8 ≤ appBound := by unfold appBound; omega
  refine callsF_cw hm hf83 (by simp [cf83]) ?_
  simp only [cf83, argsAl]
  refine CW.rI fun K hK => ?_
  simp (maxSteps := 4000000) only [amC, amR, setO, Am.set, dr3, dr4, AV.elem, AV.cells, AV.one, loadAV, faddrAV, binAV, storeAV, AV.putCells, AV.ref, if_true, if_false, Nat.reduceEqDiff, Nat.reduceAdd, Nat.reduceLT, Nat.reduceLeDiff, reduceCtorEq, ↓reduceIte, pickAV, lenAV, intAV, slcA, slcAV, iaddrAV, extAV, fldAV, eqCell, contAV, appendAV, maxI, minI, Option.some.injEq, catT, AV.elem, AV.cells, AV.one, pts, List.all_cons, List.all_nil]
  refine hK _ _ nofun ?_
  clear hK K
  refine CW.seq ?_
  refine CW.rI fun K hK => ?_
  simp (maxSteps := 4000000) only [amC, amR, setO, Am.set, dr3, dr4, AV.elem, AV.cells, AV.one, loadAV, faddrAV, binAV, storeAV, AV.putCells, AV.ref, if_true, if_false, Nat.reduceEqDiff, Nat.reduceAdd, Nat.reduceLT, Nat.reduceLeDiff, reduceCtorEq, ↓reduceIte, pickAV, lenAV, intAV, slcA, slcAV, iaddrAV, extAV, fldAV, eqCell, contAV, appendAV, maxI, minI, Option.some.injEq, catT, AV.cells]
  refine RunCall.view (fid := 50) (caps := []) rfl rfl (viewArgs_flat1 (flat_pts l 2)) (c50 l (by omega)) rfl ?_
  simp (maxSteps := 4000000) only [amC, amR, setO, Am.set, dr3, dr4, AV.elem, AV.cells, AV.one, loadAV, faddrAV, binAV, storeAV, AV.putCells, AV.ref, if_true, if_false, Nat.reduceEqDiff, Nat.reduceAdd, Nat.reduceLT, Nat.reduceLeDiff, reduceCtorEq, ↓reduceIte, pickAV, lenAV, intAV, slcA, slcAV, iaddrAV, extAV, fldAV, eqCell, contAV, appendAV, maxI, minI, Option.some.injEq, catT, hok]
  refine hK _ _ nofun ?_
  clear hK K
  refine CW.rI fun K hK => ?_
  simp (maxSteps := 4000000) only [amC, amR, setO, Am.set, dr3, dr4, AV.elem, AV.cells, AV.one, loadAV, faddrAV, binAV, storeAV, AV.putCells, AV.ref, if_true, if_false, Nat.reduceEqDiff, Nat.reduceAdd, Nat.reduceLT, Nat.reduceLeDiff, reduceCtorEq, ↓reduceIte, pickAV, lenAV, intAV, slcA, slcAV, iaddrAV, extAV, fldAV, eqCell, contAV, appendAV, maxI, minI, Option.some.injEq, catT, show ((0 : Int) != 0) = false from rfl]
  refine hK _ _ nofun ?_
  clear hK K
  refine CW.condF rfl (CW.skip ?_)
  show CW _ _ _ _ _ _
  refine CW.rI fun K hK => ?_
  simp (maxSteps := 4000000) only [amC, amR, setO, Am.set, dr3, dr4, AV.elem, AV.cells, AV.one, loadAV, faddrAV, binAV, storeAV, AV.putCells, AV.ref, if_true, if_false, Nat.reduceEqDiff, Nat.reduceAdd, Nat.reduceLT, Nat.reduceLeDiff, reduceCtorEq, ↓reduceIte, pickAV, lenAV, intAV, slcA, slcAV, iaddrAV, extAV, fldAV, eqCell, contAV, appendAV, maxI, minI, Option.some.injEq, catT, AV.cells, List.length_map, Int.natCast_nonneg, Int.toNat_natCast, hb, show (AV.int .i64 0).elem = true from rfl, ix_replicate]
  refine hK _ _ nofun ?_
  clear hK K
  refine CW.seq ?_
  refine CW.rI fun K hK => ?_
  simp (maxSteps := 4000000) only [amC, amR, setO, Am.set, dr3, dr4, AV.elem, AV.cells, AV.one, loadAV, faddrAV, binAV, storeAV, AV.putCells, AV.ref, if_true, if_false, Nat.reduceEqDiff, Nat.reduceAdd, Nat.reduceLT, Nat.reduceLeDiff, reduceCtorEq, ↓reduceIte, pickAV, lenAV, intAV, slcA, slcAV, iaddrAV, extAV, fldAV, eqCell, contAV, appendAV, maxI, minI, Option.some.injEq, catT]
  refine hK _ _ nofun ?_
  clear hK K
  refine CW.block ?_
  refine CW.loopF (fun i => l.length - i) (fun i => ⟨[(0, pts l), (1, .ptr 0 0 0 0), (5, .sl 2 0 0 l.length), (15, .sl 2 0 0 l.length), (16, .int .i64 (l.length : Int)), (17, .int .i64 (i : Nat))], [.row false 0 false 1 [pts l], .row true 0 false 1 [], .row false 0 false 1 (ix (List.range i ++ List.replicate (l.length - i) 0))]⟩) (fun i => i ≤ l.length) (fun i hi => ?_) 0 (Nat.zero_le _) _
    (Fgt.mk' 3 (by simp) (by simp [keepB, Am.get, AV.lt, ltL, lt_pts, pts, ltL_pt]) (by simp [pts]) ⟨by simp only [Blk.lt, ltL, lt_pts, Bool.and_self], rfl, by simp only [Blk.lt, ltL_ix], trivial⟩)
  by_cases h2 : (i : Int) < (l.length : Int)
  · have hi' : i < l.length := by omega
    have hlen : i < (List.range i ++ List.replicate (l.length - i) 0).length := by simp; omega
    refine CW.rI fun K hK => ?_
    simp (maxSteps := 4000000) only [amC, amR, setO, Am.set, dr3, dr4, AV.elem, AV.cells, AV.one, loadAV, faddrAV, binAV, storeAV, AV.putCells, AV.ref, if_true, if_false, Nat.reduceEqDiff, Nat.reduceAdd, Nat.reduceLT, Nat.reduceLeDiff, reduceCtorEq, ↓reduceIte, pickAV, lenAV, intAV, slcA, slcAV, iaddrAV, extAV, fldAV, eqCell, contAV, appendAV, maxI, minI, Option.some.injEq, catT, h2]
    refine hK _ _ nofun ?_
    clear hK K
    refine CW.seq ?_
    refine CW.condT rfl (CW.skip ?_)
    show CW _ _ _ _ _ _
    refine CW.seq ?_
    refine CW.block ?_
    refine CW.rI fun K hK => ?_
    simp (maxSteps := 4000000) only [amC, amR, setO, Am.set, dr3, dr4, AV.elem, AV.cells, AV.one, loadAV, faddrAV, binAV, storeAV, AV.putCells, AV.ref, if_true, if_false, Nat.reduceEqDiff, Nat.reduceAdd, Nat.reduceLT, Nat.reduceLeDiff, reduceCtorEq, ↓reduceIte, pickAV, lenAV, intAV, slcA, slcAV, iaddrAV, extAV, fldAV, eqCell, contAV, appendAV, maxI, minI, Option.some.injEq, catT]
    refine hK _ _ nofun ?_
    clear hK K
    refine CW.rE fun K hK => ?_
    simp (maxSteps := 4000000) only [amC, amR, setO, Am.set, dr3, dr4, AV.elem, AV.cells, AV.one, loadAV, faddrAV, binAV, storeAV, AV.putCells, AV.ref, if_true, if_false, Nat.reduceEqDiff, Nat.reduceAdd, Nat.reduceLT, Nat.reduceLeDiff, reduceCtorEq, ↓reduceIte, pickAV, lenAV, intAV, slcA, slcAV, iaddrAV, extAV, fldAV, eqCell, contAV, appendAV, maxI, minI, Option.some.injEq, catT, h2, Int.natCast_nonneg, Int.toNat_natCast, ix_get _ hlen, AV.cells, AV.elem, AV.one, List.all_cons, List.all_nil, ix_set, range_set hi']
    refine hK _ _ nofun ?_
    clear hK K
    refine CW.rE fun K hK => ?_
    simp (maxSteps := 4000000) only [amC, amR, setO, Am.set, dr3, dr4, AV.elem, AV.cells, AV.one, loadAV, faddrAV, binAV, storeAV, AV.putCells, AV.ref, if_true, if_false, Nat.reduceEqDiff, Nat.reduceAdd, Nat.reduceLT, Nat.reduceLeDiff, reduceCtorEq, ↓reduceIte, pickAV, lenAV, intAV, slcA, slcAV, iaddrAV, extAV, fldAV, eqCell, contAV, appendAV, maxI, minI, Option.some.injEq, catT, wrap_nat i (by omega)]
    refine hK _ _ nofun ?_
    clear hK K
    exact ⟨i + 1, by omega, by omega, Fgt.mk' 3 (by simp) (by simp [keepB, Am.get, AV.lt, ltL, lt_pts]) rfl ⟨by simp only [Blk.lt, ltL, lt_pts, Bool.and_self], rfl, by simp only [Blk.lt, ltL_ix], trivial⟩⟩
  · have hil : i = l.length := by omega
    subst hil
    refine CW.rI fun K hK => ?_
    simp (maxSteps := 4000000) only [amC, amR, setO, Am.set, dr3, dr4, AV.elem, AV.cells, AV.one, loadAV, faddrAV, binAV, storeAV, AV.putCells, AV.ref, if_true, if_false, Nat.reduceEqDiff, Nat.reduceAdd, Nat.reduceLT, Nat.reduceLeDiff, reduceCtorEq, ↓reduceIte, pickAV, lenAV, intAV, slcA, slcAV, iaddrAV, extAV, fldAV, eqCell, contAV, appendAV, maxI, minI, Option.some.injEq, catT, h2]
    refine hK _ _ nofun ?_
    clear hK K
    refine CW.seq ?_
    refine CW.condF rfl (CW.exit ?_)
    show CW _ _ _ _ _ _
    have hc := c104 l 0 (List.range l.length) (fun x hx => List.mem_range.1 hx) (by simpa using hn)
    rw [List.length_range] at hc
    refine CW.rI fun K hK => ?_
    simp (maxSteps := 4000000) only [amC, amR, setO, Am.set, dr3, dr4, AV.elem, AV.cells, AV.one, loadAV, faddrAV, binAV, storeAV, AV.putCells, AV.ref, if_true, if_false, Nat.reduceEqDiff, Nat.reduceAdd, Nat.reduceLT, Nat.reduceLeDiff, reduceCtorEq, ↓reduceIte, pickAV, lenAV, intAV, slcA, slcAV, iaddrAV, extAV, fldAV, eqCell, contAV, appendAV, maxI, minI, Option.some.injEq, catT, Nat.sub_self, List.replicate_zero]
    refine RunCall.one (fid := 104) (caps := []) rfl rfl (b := 2) (X := [.sl 2 0 0 l.length, .clo 105 [.ptr 0 0 0 0]]) (args := [.sl 0 0 0 l.length, .clo 105 [.rp true [pts l]]]) (.cons (.row 0 0 l.length) (.cons (.view (viewG_clo rfl (flat_pts l 2) rfl) rfl) .nil)) hc (by simp) rfl (by simp only [Blk.lt, ltL_ix]) rfl (by simp only [Blk.lt, ltL_ix]) (by simp only [Blk.clean, cleanL_ix]) ?_
    simp (maxSteps := 4000000) only [amC, amR, setO, Am.set, dr3, dr4, AV.elem, AV.cells, AV.one, loadAV, faddrAV, binAV, storeAV, AV.putCells, AV.ref, if_true, if_false, Nat.reduceEqDiff, Nat.reduceAdd, Nat.reduceLT, Nat.reduceLeDiff, reduceCtorEq, ↓reduceIte, pickAV, lenAV, intAV, slcA, slcAV, iaddrAV, extAV, fldAV, eqCell, contAV, appendAV, maxI, minI, Option.some.injEq, catT]
    refine hK _ _ nofun ?_
    clear hK K
    refine CW.rI fun K hK => ?_
    simp (maxSteps := 4000000) only [amC, amR, setO, Am.set, dr3, dr4, AV.elem, AV.cells, AV.one, loadAV, faddrAV, binAV, storeAV, AV.putCells, AV.ref, if_true, if_false, Nat.reduceEqDiff, Nat.reduceAdd, Nat.reduceLT, Nat.reduceLeDiff, reduceCtorEq, ↓reduceIte, pickAV, lenAV, intAV, slcA, slcAV, iaddrAV, extAV, fldAV, eqCell, contAV, appendAV, maxI, minI, Option.some.injEq, catT]
    refine hK _ _ nofun ?_
    clear hK K
    refine CW.ret (finK_new (.inr rfl) (xs := [.sl 2 0 0 l.length, .int .i64 0]) (b := 2) (g := 0) (by simp [resRV, Am.get]) rfl (allRL_ix _ _ _) rfl ?_)
    simp [tupAV, AV.mapR, mapRL, sigF]
end Go.Hull
end
section
set_option linter.unusedSimpArgs false
set_option linter.unusedVariables false
set_option maxHeartbeats 2000000
namespace Go.Hull
open Go Go.Am Go.Proofs

def eqP (p q : Pt) : Bool := (p.1 == q.1) && ((p.2 == q.2) && true)
theorem c85 {l : List Pt} {i k : Nat} {p q : Pt} (hi : l[i]? = some p) (hk : l[k]? = some q) : CallsF Try.prog 85 [.int .i64 (i : Int), .int .i64 (k : Int), .rp true [pts l]] [] (.bool (eqP p q)) [] := by
  have hil : (i : Int) < (l.length : Int) := by have := (List.getElem?_eq_some_iff.1 hi).1; omega
  have hkl : (k : Int) < (l.length : Int) := by have := (List.getElem?_eq_some_iff.1 hk).1; omega
  have hpi := get_pts hi
  have hpk := get_pts hk
  refine callsF_cw hm hf85 (by simp [cf85]) ?_
  simp only [cf85, argsAl]
  refine CW.rI fun K hK => ?_
  simp (maxSteps := 4000000) only [amC, amR, setO, Am.set, dr3, dr4, AV.elem, AV.cells, AV.one, loadAV, faddrAV, binAV, storeAV, AV.putCells, AV.ref, if_true, if_false, Nat.reduceEqDiff, Nat.reduceAdd, Nat.reduceLT, Nat.reduceLeDiff, reduceCtorEq, ↓reduceIte, pickAV, lenAV, intAV, slcA, slcAV, iaddrAV, extAV, fldAV, eqCell, contAV, appendAV, maxI, minI, Option.some.injEq, catT]
  refine hK _ _ nofun ?_
  clear hK K
  unfold pts
  refine CW.rI fun K hK => ?_
  simp (maxSteps := 4000000) only [amC, amR, setO, Am.set, dr3, dr4, AV.elem, AV.cells, AV.one, loadAV, faddrAV, binAV, storeAV, AV.putCells, AV.ref, if_true, if_false, Nat.reduceEqDiff, Nat.reduceAdd, Nat.reduceLT, Nat.reduceLeDiff, reduceCtorEq, ↓reduceIte, pickAV, lenAV, intAV, slcA, slcAV, iaddrAV, extAV, fldAV, eqCell, contAV, appendAV, maxI, minI, Option.some.injEq, catT, List.length_map, hil, hkl, hpi, hpk, Int.toNat_natCast, Int.natCast_nonneg, AV.cells, pt]
  refine hK _ _ (fun _ => rfl) ?_
  clear hK K
  exact CW.ret (finK_pure (.inr rfl) (xs := [.bool (eqP p q)]) (by simp [resRV, Am.get, eqP]) rfl rfl)
def rv (n : Nat) : Nat → Nat → List Nat → List Nat
  | 0, _, xs => xs
  | f + 1, i, xs => if i < n - 1 - i then rv n f (i + 1) ((xs.set i (xs.getD (n - 1 - i) 0)).set (n - 1 - i) (xs.getD i 0)) else xs
/-- The top of the stack stands first. -/
def pop (l : List Pt) (i : Nat) : List Nat → List Nat
  | b :: a :: r => if left (l.getD a (0, 0)) (l.getD b (0, 0)) (l.getD i (0, 0)) ≤ 0 then pop l i (a :: r) else b :: a :: r
  | st => st
def chainS (l : List Pt) (ord : List Nat) : List Nat := ord.foldl (fun st i => i :: pop l i st) []
theorem pop_mem {l : List Pt} {i n : Nat} : ∀ (st : List Nat), (∀ x ∈ st, x < n) → ∀ x ∈ pop l i st, x < n := by
  intro st
  induction st with
  | nil => intro h; exact h
  | cons b st ih =>
    intro h
    cases st with
    | nil => exact h
    | cons a r =>
      simp only [pop]
      split
      · exact ih fun x hx => h x (by simp [hx])
      · exact h
theorem pop_length {l : List Pt} {i : Nat} : ∀ (st : List Nat), (pop l i st).length ≤ st.length := by
  intro st
  induction st with
  | nil => exact Nat.le_refl _
  | cons b st ih =>
    cases st with
    | nil => exact Nat.le_refl _
    | cons a r =>
      simp only [pop]
      split
      · exact Nat.le_trans ih (by simp)
      · exact Nat.le_refl _
theorem take_get {zs st : List Nat} {n k : Nat} (h : zs.take n = st.reverse) (hn : n = st.length) (hk : k < n) : zs.getD k 0 = st.getD (n - 1 - k) 0 ∧ k < zs.length := by
  have hl : (zs.take n).length = n := by rw [h, List.length_reverse, hn]
  have hz : n ≤ zs.length := by rw [List.length_take] at hl; omega
  refine ⟨?_, by omega⟩
  have e1 : zs[k]? = (zs.take n)[k]? := by rw [List.getElem?_take, if_pos hk]
  rw [List.getD_eq_getElem?_getD, e1, h, List.getElem?_reverse (by omega), List.getD_eq_getElem?_getD, hn]
end Go.Hull
end
section
set_option linter.unusedSimpArgs false
set_option linter.unusedVariables false
set_option maxHeartbeats 2000000
namespace Go.Hull
open Go Go.Am Go.Proofs

theorem elem_int (k : IntKind) (n : Int) : (AV.int k n).elem = true := rfl
theorem all_ok {l : List Pt} (h : l.all okP = true) {k : Nat} (hk : k < l.length) : okP (l.getD k (0, 0)) = true :=
  List.all_eq_true.1 h _ (List.mem_of_getElem? (getp hk))
theorem foldl_take_succ {α β : Type} (f : β → α → β) (b : β) (l : List α) {i : Nat} {x : α} (h : l[i]? = some x) : (l.take (i + 1)).foldl f b = f ((l.take i).foldl f b) x := by
  rw [List.take_add_one, h]
  simp
theorem chain_pos {l : List Pt} : ∀ (ord st : List Nat), ord ≠ [] → 0 < (ord.foldl (fun st i => i :: pop l i st) st).length := by
  intro ord
  induction ord with
  | nil => intro st h; exact absurd rfl h
  | cons o os ih =>
    intro st _
    cases os with
    | nil => simp
    | cons o' os' => exact ih _ (by simp)
theorem c86 (l : List Pt) (hok : l.all okP = true) (ord : List Nat) (ho : ∀ x ∈ ord, x < l.length) (hne : ord ≠ []) (hn : ord.length < 1000) :
    CallsF Try.prog 86 [.sv false 1 (ix ord), .rp true [pts l]] [] (.sl 0 0 0 ((chainS l ord).length - 1)) [.row false 0 false 1 (ix ((chainS l ord).reverse))] := by
  refine callsF_cwx hm hf86 (by simp [cf86]) ?_
  simp only [cf86, argsAl]
  refine CWx.r fun K hK => ?_
  simp (maxSteps := 4000000) only [amC, amX, dr3, dr4, AV.elem, AV.cells, AV.one, loadAV, faddrAV, binAV, storeAV, AV.putCells, AV.ref, if_true, if_false, Nat.reduceEqDiff, Nat.reduceAdd, Nat.reduceLT, Nat.reduceLeDiff, reduceCtorEq, ↓reduceIte, pickAV, lenAV, intAV, slcA, slcAV, iaddrAV, extAV, fldAV, eqCell, contAV, appendAV, maxI, minI, Option.some.injEq, catT]
  refine hK _ _ _ nofun ?_
  clear hK K
  refine CWx.r fun K hK => ?_
  simp (maxSteps := 4000000) only [amC, amX, dr3, dr4, AV.elem, AV.cells, AV.one, loadAV, faddrAV, binAV, storeAV, AV.putCells, AV.ref, if_true, if_false, Nat.reduceEqDiff, Nat.reduceAdd, Nat.reduceLT, Nat.reduceLeDiff, reduceCtorEq, ↓reduceIte, pickAV, lenAV, intAV, slcA, slcAV, iaddrAV, extAV, fldAV, eqCell, contAV, appendAV, maxI, minI, Option.some.injEq, catT]
  refine hK _ _ _ nofun ?_
  clear hK K
  refine CWx.seq ?_
  refine CWx.r fun K hK => ?_
  simp (maxSteps := 4000000) only [amC, amX, dr3, dr4, AV.elem, AV.cells, AV.one, loadAV, faddrAV, binAV, storeAV, AV.putCells, AV.ref, if_true, if_false, Nat.reduceEqDiff, Nat.reduceAdd, Nat.reduceLT, Nat.reduceLeDiff, reduceCtorEq, ↓reduceIte, pickAV, lenAV, intAV, slcA, slcAV, iaddrAV, extAV, fldAV, eqCell, contAV, appendAV, maxI, minI, Option.some.injEq, catT, ix_length]
  refine hK _ _ _ nofun ?_
  clear hK K
  refine CWx.block ?_
  refine CWx.loopF (fun q : Nat × List Nat × List Nat => ord.length - q.1) (fun q => ⟨[(0, .sv false 1 (ix ord)), (1, .rp true [pts l]), (4, .sl 1 q.1 0 q.2.1.length), (7, .sv false 1 (ix ord)), (8, .int .i64 (ord.length : Int)), (9, .int .i64 (q.1 : Int))], [.row true 0 false 1 [], .row (decide (q.1 = 0)) q.1 false 1 (ix q.2.2)]⟩)
    (fun q => q.1 ≤ ord.length ∧ q.2.2.take q.2.1.length = q.2.1.reverse ∧ (∀ x ∈ q.2.1, x < l.length) ∧ q.2.1.length ≤ q.1 ∧ (q.2.2.length = q.2.1.length) ∧ q.2.1 = (ord.take q.1).foldl (fun st i => i :: pop l i st) []) (fun q hq => ?_) (0, [], []) ⟨Nat.zero_le _, rfl, by simp, by simp, rfl, by simp⟩
    (Fgt.mk' 2 (by simp) (by simp [keepB, Am.get, AV.lt, ltL, lt_pts, ltL_ix]) rfl ⟨rfl, rfl, trivial⟩)
  obtain ⟨i, st, zs⟩ := q
  obtain ⟨hi, hz, hm, hsl, hzl, hst⟩ := hq
  simp only at hi hz hm hsl hzl hst
  by_cases h : (i : Int) < (ord.length : Int)
  · have hil : i < ord.length := by omega
    have hv := ix_get ord hil
    have hvo : ord[i]? = some (ord.getD i 0) := by simp [List.getD_eq_getElem?_getD, List.getElem?_eq_getElem hil]
    have hov := getD_lt ho hil
    obtain ⟨v, hvd⟩ : ∃ v, v = ord.getD i 0 := ⟨_, rfl⟩
    rw [← hvd] at hv hov hvo
    have hpv := get_pts (getp hov)
    have okv := all_ok hok hov
    refine CWx.r fun K hK => ?_
    simp (maxSteps := 4000000) only [amC, amX, dr3, dr4, AV.elem, AV.cells, AV.one, loadAV, faddrAV, binAV, storeAV, AV.putCells, AV.ref, if_true, if_false, Nat.reduceEqDiff, Nat.reduceAdd, Nat.reduceLT, Nat.reduceLeDiff, reduceCtorEq, ↓reduceIte, pickAV, lenAV, intAV, slcA, slcAV, iaddrAV, extAV, fldAV, eqCell, contAV, appendAV, maxI, minI, Option.some.injEq, catT, h]
    refine hK _ _ _ nofun ?_
    clear hK K
    refine CWx.seq ?_
    refine CWx.condT rfl (CWx.skip (CWx.go ?_))
    refine CWx.seq ?_
    refine CWx.block ?_
    refine CWx.r fun K hK => ?_
    simp (maxSteps := 4000000) only [amC, amX, dr3, dr4, AV.elem, AV.cells, AV.one, loadAV, faddrAV, binAV, storeAV, AV.putCells, AV.ref, if_true, if_false, Nat.reduceEqDiff, Nat.reduceAdd, Nat.reduceLT, Nat.reduceLeDiff, reduceCtorEq, ↓reduceIte, pickAV, lenAV, intAV, slcA, slcAV, iaddrAV, extAV, fldAV, eqCell, contAV, appendAV, maxI, minI, Option.some.injEq, catT, ix_length, h, Int.natCast_nonneg, Int.toNat_natCast, hv, AV.cells]
    refine hK _ _ _ nofun ?_
    clear hK K
    refine CWx.seq ?_
    refine CWx.block ?_
    refine CWx.loopF (fun q : List Nat => q.length) (fun q => ⟨[(0, .sv false 1 (ix ord)), (1, .rp true [pts l]), (4, .sl 1 i 0 q.length), (6, .int .i64 (v : Int)), (7, .sv false 1 (ix ord)), (8, .int .i64 (ord.length : Int)), (9, .int .i64 (i : Int))], [.row true 0 false 1 [], .row (decide (i = 0)) i false 1 (ix zs)]⟩)
      (fun q => zs.take q.length = q.reverse ∧ (∀ x ∈ q, x < l.length) ∧ q.length ≤ i ∧ q.length ≤ zs.length ∧ pop l v q = pop l v st) (fun q hq => ?_) st ⟨hz, hm, hsl, by omega, rfl⟩ (Fgt.mk' 2 (by simp) (by simp [keepB, Am.get, AV.lt, ltL, lt_pts, ltL_ix]) rfl ⟨rfl, by simp only [Blk.lt, ltL_ix], trivial⟩)
    obtain ⟨hqz, hqm, hqi, hqzl, hqp⟩ := hq
    have hb : (q.length + 1) * 8 ≤ appBound := by unfold appBound; omega
    refine CWx.seq ?_
    match q, hqz, hqm, hqi, hqzl, hqp, hb with
    | [], hqz, hqm, hqi, hqzl, hqp, hb =>
      have hp : pop l v [] = [] := rfl
      obtain ⟨q, hq0⟩ : ∃ q : List Nat, q = [] := ⟨[], rfl⟩
      refine CWx.r fun K hK => ?_
      simp (maxSteps := 4000000) only [amC, amX, dr3, dr4, AV.elem, AV.cells, AV.one, loadAV, faddrAV, binAV, storeAV, AV.putCells, AV.ref, if_true, if_false, Nat.reduceEqDiff, Nat.reduceAdd, Nat.reduceLT, Nat.reduceLeDiff, reduceCtorEq, ↓reduceIte, pickAV, lenAV, intAV, slcA, slcAV, iaddrAV, extAV, fldAV, eqCell, contAV, appendAV, maxI, minI, Option.some.injEq, catT, List.length_nil, show ¬ ((1 : Int) < ((0 : Nat) : Int)) from by decide]
      refine hK _ _ _ (fun _ => rfl) ?_
      clear hK K
      refine CWx.condF rfl (CWx.exit (CWx.go ?_))
      rw [← hq0] at hp hqz hqm hqi hqzl hqp hb
      have e0 : (0 : Nat) = q.length := by rw [hq0]; rfl
      have e1 : (AV.sl 1 i 0 0) = .sl 1 i 0 q.length := by rw [← e0]
      rw [e1]
      refine CWx.e fun K hK => ?_
      simp (maxSteps := 4000000) only [amC, amX, dr3, dr4, AV.elem, AV.cells, AV.one, loadAV, faddrAV, binAV, storeAV, AV.putCells, AV.ref, if_true, if_false, Nat.reduceEqDiff, Nat.reduceAdd, Nat.reduceLT, Nat.reduceLeDiff, reduceCtorEq, ↓reduceIte, pickAV, lenAV, intAV, slcA, slcAV, iaddrAV, extAV, fldAV, eqCell, contAV, appendAV, maxI, minI, Option.some.injEq, catT, sizedA, elem_int, AV.cells, beq_self_eq_true, Bool.and_self, hb, hqzl, List.isEmpty_cons, ix_length, Nat.reduceBEq, true_or, or_true]
      refine hK _ _ _ nofun ?_
      clear hK K
      refine CWx.go ?_
      refine CWx.e fun K hK => ?_
      simp (maxSteps := 4000000) only [amC, amX, dr3, dr4, AV.elem, AV.cells, AV.one, loadAV, faddrAV, binAV, storeAV, AV.putCells, AV.ref, if_true, if_false, Nat.reduceEqDiff, Nat.reduceAdd, Nat.reduceLT, Nat.reduceLeDiff, reduceCtorEq, ↓reduceIte, pickAV, lenAV, intAV, slcA, slcAV, iaddrAV, extAV, fldAV, eqCell, contAV, appendAV, maxI, minI, Option.some.injEq, catT, wrap_nat i (by omega)]
      refine hK _ _ _ nofun ?_
      clear hK K
      intro al hal
      have hlen2 : (v :: pop l v st).length = q.length + 1 := by rw [← hqp, hp]; rfl
      refine ⟨(i + 1, v :: pop l v st, (v :: pop l v st).reverse), by simp only; omega, ⟨by simp only; omega, ?_, ?_, ?_, ?_, ?_⟩, Fgt.ofx hal (Fgt.mk' 2 (by simp) ?_ ?_ ⟨rfl, by simp only [Blk.lt, ltL_ix], trivial⟩)⟩
      · exact List.take_of_length_le (by simp)
      · intro x hx
        rcases List.mem_cons.1 hx with rfl | hx
        · exact hov
        · exact pop_mem st hm x hx
      · simp only [hlen2]; omega
      · simp
      · simp only
        rw [foldl_take_succ _ _ _ hvo, ← hst]
      · simp only [hlen2]
        simp [keepB, Am.get, AV.lt, ltL, lt_pts, ltL_ix, pts, ltL_pt]
      · simp [ix_take, hqz, ← hqp, hp]
        simp [ix]
    | [a], hqz, hqm, hqi, hqzl, hqp, hb =>
      have hp : pop l v [a] = [a] := rfl
      obtain ⟨q, hq0⟩ : ∃ q : List Nat, q = [a] := ⟨[a], rfl⟩
      refine CWx.r fun K hK => ?_
      simp (maxSteps := 4000000) only [amC, amX, dr3, dr4, AV.elem, AV.cells, AV.one, loadAV, faddrAV, binAV, storeAV, AV.putCells, AV.ref, if_true, if_false, Nat.reduceEqDiff, Nat.reduceAdd, Nat.reduceLT, Nat.reduceLeDiff, reduceCtorEq, ↓reduceIte, pickAV, lenAV, intAV, slcA, slcAV, iaddrAV, extAV, fldAV, eqCell, contAV, appendAV, maxI, minI, Option.some.injEq, catT, List.length_nil, List.length_cons, show ¬ ((1 : Int) < ((0 + 1 : Nat) : Int)) from by decide]
      refine hK _ _ _ (fun _ => rfl) ?_
      clear hK K
      refine CWx.condF rfl (CWx.exit (CWx.go ?_))
      rw [← hq0] at hp hqz hqm hqi hqzl hqp hb
      have e0 : 0 + 1 = q.length := by rw [hq0]; rfl
      have e1 : (AV.sl 1 i 0 (0 + 1)) = .sl 1 i 0 q.length := by rw [← e0]
      rw [e1]
      refine CWx.e fun K hK => ?_
      simp (maxSteps := 4000000) only [amC, amX, dr3, dr4, AV.elem, AV.cells, AV.one, loadAV, faddrAV, binAV, storeAV, AV.putCells, AV.ref, if_true, if_false, Nat.reduceEqDiff, Nat.reduceAdd, Nat.reduceLT, Nat.reduceLeDiff, reduceCtorEq, ↓reduceIte, pickAV, lenAV, intAV, slcA, slcAV, iaddrAV, extAV, fldAV, eqCell, contAV, appendAV, maxI, minI, Option.some.injEq, catT, sizedA, elem_int, AV.cells, beq_self_eq_true, Bool.and_self, hb, hqzl, List.isEmpty_cons, ix_length, Nat.reduceBEq, true_or, or_true]
      refine hK _ _ _ nofun ?_
      clear hK K
      refine CWx.go ?_
      refine CWx.e fun K hK => ?_
      simp (maxSteps := 4000000) only [amC, amX, dr3, dr4, AV.elem, AV.cells, AV.one, loadAV, faddrAV, binAV, storeAV, AV.putCells, AV.ref, if_true, if_false, Nat.reduceEqDiff, Nat.reduceAdd, Nat.reduceLT, Nat.reduceLeDiff, reduceCtorEq, ↓reduceIte, pickAV, lenAV, intAV, slcA, slcAV, iaddrAV, extAV, fldAV, eqCell, contAV, appendAV, maxI, minI, Option.some.injEq, catT, wrap_nat i (by omega)]
      refine hK _ _ _ nofun ?_
      clear hK K
      intro al hal
      have hlen2 : (v :: pop l v st).length = q.length + 1 := by rw [← hqp, hp]; rfl
      refine ⟨(i + 1, v :: pop l v st, (v :: pop l v st).reverse), by simp only; omega, ⟨by simp only; omega, ?_, ?_, ?_, ?_, ?_⟩, Fgt.ofx hal (Fgt.mk' 2 (by simp) ?_ ?_ ⟨rfl, by simp only [Blk.lt, ltL_ix], trivial⟩)⟩
      · exact List.take_of_length_le (by simp)
      · intro x hx
        rcases List.mem_cons.1 hx with rfl | hx
        · exact hov
        · exact pop_mem st hm x hx
      · simp only [hlen2]; omega
      · simp
      · simp only
        rw [foldl_take_succ _ _ _ hvo, ← hst]
      · simp only [hlen2]
        simp [keepB, Am.get, AV.lt, ltL, lt_pts, ltL_ix, pts, ltL_pt]
      · simp [ix_take, hqz, ← hqp, hp]
        simp [ix]
    | b :: a :: r, hqz, hqm, hqi, hqzl, hqp, hb =>
      simp only [List.length_cons] at hqz hqi hqzl hb
      have hnl : decide (i = 0) = false := by simp; omega
      have t0 := take_get (st := b :: a :: r) hqz rfl (show r.length < r.length + 1 + 1 by omega)
      have t1 := take_get (st := b :: a :: r) hqz rfl (show r.length + 1 < r.length + 1 + 1 by omega)
      have z0 := ix_get zs t0.2
      have z1 := ix_get zs t1.2
      rw [t0.1] at z0
      rw [t1.1] at z1
      have e0 : (b :: a :: r).getD (r.length + 1 + 1 - 1 - r.length) 0 = a := by rw [show r.length + 1 + 1 - 1 - r.length = 1 by omega]; rfl
      have e1 : (b :: a :: r).getD (r.length + 1 + 1 - 1 - (r.length + 1)) 0 = b := by rw [show r.length + 1 + 1 - 1 - (r.length + 1) = 0 by omega]; rfl
      rw [e0] at z0
      rw [e1] at z1
      have ba := hqm a (by simp)
      have bb := hqm b (by simp)
      have hpa := get_pts (getp ba)
      have hpb := get_pts (getp bb)
      have p1 : (1 : Int) < ((r.length + 1 + 1 : Nat) : Int) := by omega
      have w2 : IntKind.i64.wrap (((r.length + 1 + 1 : Nat) : Int) - 2) = (r.length : Int) := by rw [wr _ (by omega) (by omega)]; omega
      have w1 : IntKind.i64.wrap (((r.length + 1 + 1 : Nat) : Int) - 1) = ((r.length + 1 : Nat) : Int) := by rw [wr _ (by omega) (by omega)]; omega
      have q1 : ((r.length : Nat) : Int) < ((r.length + 1 + 1 : Nat) : Int) := by omega
      have q2 : ((r.length + 1 : Nat) : Int) < ((r.length + 1 + 1 : Nat) : Int) := by omega
      have ya : (a : Int) < (l.length : Int) := by omega
      have yb : (b : Int) < (l.length : Int) := by omega
      have yv : (v : Int) < (l.length : Int) := by omega
      by_cases hc : left (l.getD a (0, 0)) (l.getD b (0, 0)) (l.getD v (0, 0)) ≤ 0
      · unfold pts
        refine CWx.r fun K hK => ?_
        simp (maxSteps := 4000000) only [amC, amX, dr3, dr4, AV.elem, AV.cells, AV.one, loadAV, faddrAV, binAV, storeAV, AV.putCells, AV.ref, if_true, if_false, Nat.reduceEqDiff, Nat.reduceAdd, Nat.reduceLT, Nat.reduceLeDiff, reduceCtorEq, ↓reduceIte, pickAV, lenAV, intAV, slcA, slcAV, iaddrAV, extAV, fldAV, eqCell, contAV, appendAV, maxI, minI, Option.some.injEq, catT, List.length_cons, hnl, p1, w1, w2, q1, q2, ya, yb, yv, Int.natCast_nonneg, Int.toNat_natCast, z0, z1, hpa, hpb, hpv, AV.cells, List.length_map, pt]
        refine RCx.view (fid := 55) (caps := []) rfl rfl rfl (c55' (all_ok hok ba) (all_ok hok bb) okv) rfl ?_
        simp (maxSteps := 4000000) only [amC, amX, dr3, dr4, AV.elem, AV.cells, AV.one, loadAV, faddrAV, binAV, storeAV, AV.putCells, AV.ref, if_true, if_false, Nat.reduceEqDiff, Nat.reduceAdd, Nat.reduceLT, Nat.reduceLeDiff, reduceCtorEq, ↓reduceIte, pickAV, lenAV, intAV, slcA, slcAV, iaddrAV, extAV, fldAV, eqCell, contAV, appendAV, maxI, minI, Option.some.injEq, catT, hc]
        refine hK _ _ _ (fun _ => rfl) ?_
        clear hK K
        refine CWx.condT rfl (CWx.skip (CWx.go ?_))
        refine CWx.block ?_
        refine CWx.e fun K hK => ?_
        simp (maxSteps := 4000000) only [amC, amX, dr3, dr4, AV.elem, AV.cells, AV.one, loadAV, faddrAV, binAV, storeAV, AV.putCells, AV.ref, if_true, if_false, Nat.reduceEqDiff, Nat.reduceAdd, Nat.reduceLT, Nat.reduceLeDiff, reduceCtorEq, ↓reduceIte, pickAV, lenAV, intAV, slcA, slcAV, iaddrAV, extAV, fldAV, eqCell, contAV, appendAV, maxI, minI, Option.some.injEq, catT, List.length_cons, w1, Int.natCast_nonneg, Int.toNat_natCast, Int.sub_zero, Int.le_refl, show ((r.length + 1 : Nat) : Int) ≤ ((r.length + 1 + 1 : Nat) : Int) from by omega, Int.toNat_zero]
        refine hK _ _ _ nofun ?_
        clear hK K
        intro al hal
        refine ⟨a :: r, by simp, ⟨?_, ?_, ?_, ?_, ?_⟩, Fgt.ofx hal (Fgt.mk' 2 (by simp) (by simp [keepB, Am.get, AV.lt, ltL, lt_pts, ltL_ix, pts, ltL_pt]) (by simp [hnl]) ⟨rfl, by simp only [Blk.lt, ltL_ix], trivial⟩)⟩
        · have := congrArg (List.take (r.length + 1)) hqz
          rw [List.take_take, Nat.min_eq_left (by omega)] at this
          simp only [List.length_cons]
          rw [this, List.reverse_cons, List.take_append_of_le_length (by simp), List.take_of_length_le (by simp)]
        · exact fun x hx => hqm x (by simp [hx])
        · simp only [List.length_cons]; omega
        · simp only [List.length_cons]; omega
        · rw [← hqp]
          simp only [pop]
          rw [if_pos hc]
      · have hp : pop l v (b :: a :: r) = b :: a :: r := by simp only [pop]; rw [if_neg hc]
        unfold pts
        refine CWx.r fun K hK => ?_
        simp (maxSteps := 4000000) only [amC, amX, dr3, dr4, AV.elem, AV.cells, AV.one, loadAV, faddrAV, binAV, storeAV, AV.putCells, AV.ref, if_true, if_false, Nat.reduceEqDiff, Nat.reduceAdd, Nat.reduceLT, Nat.reduceLeDiff, reduceCtorEq, ↓reduceIte, pickAV, lenAV, intAV, slcA, slcAV, iaddrAV, extAV, fldAV, eqCell, contAV, appendAV, maxI, minI, Option.some.injEq, catT, List.length_cons, hnl, p1, w1, w2, q1, q2, ya, yb, yv, Int.natCast_nonneg, Int.toNat_natCast, z0, z1, hpa, hpb, hpv, AV.cells, List.length_map, pt]
        refine RCx.view (fid := 55) (caps := []) rfl rfl rfl (c55' (all_ok hok ba) (all_ok hok bb) okv) rfl ?_
        simp (maxSteps := 4000000) only [amC, amX, dr3, dr4, AV.elem, AV.cells, AV.one, loadAV, faddrAV, binAV, storeAV, AV.putCells, AV.ref, if_true, if_false, Nat.reduceEqDiff, Nat.reduceAdd, Nat.reduceLT, Nat.reduceLeDiff, reduceCtorEq, ↓reduceIte, pickAV, lenAV, intAV, slcA, slcAV, iaddrAV, extAV, fldAV, eqCell, contAV, appendAV, maxI, minI, Option.some.injEq, catT, hc]
        refine hK _ _ _ (fun _ => rfl) ?_
        clear hK K
        obtain ⟨q, hq0⟩ : ∃ q : List Nat, q = b :: a :: r := ⟨_, rfl⟩
        refine CWx.condF rfl (CWx.exit (CWx.go ?_))
        have e0' : r.length + 1 + 1 = q.length := by rw [hq0]; rfl
        rw [← hq0] at hp hqm hqp
        rw [e0'] at hqz hqi hqzl hb
        rw [← hq0] at hqz
        have e1' : (AV.sl 1 i 0 (r.length + 1 + 1)) = .sl 1 i 0 q.length := by rw [← e0']
        rw [e1']
        refine CWx.e fun K hK => ?_
        simp (maxSteps := 4000000) only [amC, amX, dr3, dr4, AV.elem, AV.cells, AV.one, loadAV, faddrAV, binAV, storeAV, AV.putCells, AV.ref, if_true, if_false, Nat.reduceEqDiff, Nat.reduceAdd, Nat.reduceLT, Nat.reduceLeDiff, reduceCtorEq, ↓reduceIte, pickAV, lenAV, intAV, slcA, slcAV, iaddrAV, extAV, fldAV, eqCell, contAV, appendAV, maxI, minI, Option.some.injEq, catT, sizedA, elem_int, AV.cells, beq_self_eq_true, Bool.and_self, hb, hqzl, List.isEmpty_cons, ix_length, Nat.reduceBEq, true_or, or_true]
        refine hK _ _ _ nofun ?_
        clear hK K
        refine CWx.go ?_
        refine CWx.e fun K hK => ?_
        simp (maxSteps := 4000000) only [amC, amX, dr3, dr4, AV.elem, AV.cells, AV.one, loadAV, faddrAV, binAV, storeAV, AV.putCells, AV.ref, if_true, if_false, Nat.reduceEqDiff, Nat.reduceAdd, Nat.reduceLT, Nat.reduceLeDiff, reduceCtorEq, ↓reduceIte, pickAV, lenAV, intAV, slcA, slcAV, iaddrAV, extAV, fldAV, eqCell, contAV, appendAV, maxI, minI, Option.some.injEq, catT, wrap_nat i (by omega)]
        refine hK _ _ _ nofun ?_
        clear hK K
        intro al hal
        have hlen2 : (v :: pop l v st).length = q.length + 1 := by rw [← hqp, hp]; rfl
        refine ⟨(i + 1, v :: pop l v st, (v :: pop l v st).reverse), by simp only; omega, ⟨by simp only; omega, ?_, ?_, ?_, ?_, ?_⟩, Fgt.ofx hal (Fgt.mk' 2 (by simp) ?_ ?_ ⟨rfl, by simp only [Blk.lt, ltL_ix], trivial⟩)⟩
        · exact List.take_of_length_le (by simp)
        · intro x hx
          rcases List.mem_cons.1 hx with rfl | hx
          · exact hov
          · exact pop_mem st hm x hx
        · simp only [hlen2]; omega
        · simp
        · simp only
          rw [foldl_take_succ _ _ _ hvo, ← hst]
        · simp only [hlen2]
          simp [keepB, Am.get, AV.lt, ltL, lt_pts, ltL_ix, pts, ltL_pt]
        · simp [ix_take, hqz, ← hqp, hp]
          simp [ix]
  · refine CWx.r fun K hK => ?_
    simp (maxSteps := 4000000) only [amC, amX, dr3, dr4, AV.elem, AV.cells, AV.one, loadAV, faddrAV, binAV, storeAV, AV.putCells, AV.ref, if_true, if_false, Nat.reduceEqDiff, Nat.reduceAdd, Nat.reduceLT, Nat.reduceLeDiff, reduceCtorEq, ↓reduceIte, pickAV, lenAV, intAV, slcA, slcAV, iaddrAV, extAV, fldAV, eqCell, contAV, appendAV, maxI, minI, Option.some.injEq, catT, h]
    refine hK _ _ _ nofun ?_
    clear hK K
    refine CWx.seq ?_
    refine CWx.condF rfl (CWx.exit (CWx.go ?_))
    have hio : i = ord.length := by omega
    have hst2 : st = chainS l ord := by rw [hst, hio, List.take_length]; rfl
    have hpos : 0 < st.length := by
      rw [hst2]
      exact chain_pos ord [] hne
    have w1 : IntKind.i64.wrap ((st.length : Int) - 1) = ((st.length - 1 : Nat) : Int) := by rw [wr _ (by omega) (by omega)]; omega
    refine CWx.r fun K hK => ?_
    simp (maxSteps := 4000000) only [amC, amX, dr3, dr4, AV.elem, AV.cells, AV.one, loadAV, faddrAV, binAV, storeAV, AV.putCells, AV.ref, if_true, if_false, Nat.reduceEqDiff, Nat.reduceAdd, Nat.reduceLT, Nat.reduceLeDiff, reduceCtorEq, ↓reduceIte, pickAV, lenAV, intAV, slcA, slcAV, iaddrAV, extAV, fldAV, eqCell, contAV, appendAV, maxI, minI, Option.some.injEq, catT, w1, Int.natCast_nonneg, Int.toNat_natCast, Int.sub_zero, Int.le_refl, Int.toNat_zero, show ((st.length - 1 : Nat) : Int) ≤ (st.length : Int) from by omega]
    refine hK _ _ _ nofun ?_
    clear hK K
    have hi0 : decide (i = 0) = false := by
      simp
      rintro rfl
      exact hne (List.eq_nil_of_length_eq_zero hio.symm)
    have hzz : zs = (chainS l ord).reverse := by rw [← hst2, ← hz, ← hzl, List.take_length]
    refine CWx.ret fun al hal => finK_ext hal (finK_new (.inr rfl) (xs := [.sl 1 i 0 (st.length - 1)]) (b := 1) (g := i) (nil := false) (ys := ix (chainS l ord).reverse) (by simp [resRV, Am.get]) (by simp only [hget, List.getElem?_cons_succ, List.getElem?_cons_zero, Option.getD_some, hi0, hzz]) (allRL_ix _ _ _) ?_ ?_)
    · simp [tupAV, AV.allR, sigP]
    · simp [tupAV, AV.mapR, sigF, hst2]
end Go.Hull
end
section
set_option linter.unusedSimpArgs false
set_option linter.unusedVariables false
set_option maxHeartbeats 2000000
namespace Go.Hull
open Go Go.Am Go.Proofs

def sameB (l : List Pt) (a b : Nat) : Bool := eqP (l.getD a (0, 0)) (l.getD b (0, 0))
/-- The second half of leaving out: k0 is where the first equal one stands. -/
def compIn (eq : Nat → Nat → Bool) (k0 : Nat) : Nat → Nat → Nat → List Nat → List Nat × Nat
  | 0, _, k, xs => (xs, k)
  | f + 1, k2, k, xs => if eq (xs.getD (k0 + k2) 0) (xs.getD (k0 + k2 - 1) 0) = true then compIn eq k0 f (k2 + 1) k xs else compIn eq k0 f (k2 + 1) (k + 1) (xs.set k (xs.getD (k0 + k2) 0))
def zeroed (n : Nat) (q : List Nat × Nat) : List Nat × Nat := (q.1.take q.2 ++ List.replicate (n - q.2) 0, q.2)
def compOut (eq : Nat → Nat → Bool) : Nat → Nat → List Nat → List Nat × Nat
  | 0, _, xs => (xs, xs.length)
  | f + 1, k, xs => if eq (xs.getD k 0) (xs.getD (k - 1) 0) = true then zeroed xs.length (compIn eq k (xs.length - k - 1) 1 k xs) else compOut eq f (k + 1) xs
def compact (eq : Nat → Nat → Bool) (xs : List Nat) : List Nat × Nat := if xs.length < 2 then (xs, xs.length) else compOut eq (xs.length - 1) 1 xs
theorem ix_append (xs ys : List Nat) : ix xs ++ ix ys = ix (xs ++ ys) := by simp [ix]
theorem c84 (l : List Pt) (g : Nat) (xs : List Nat) (hx : ∀ x ∈ xs, x < l.length) (hn : xs.length < 1000) :
    CallsF Try.prog 84 [.sl 0 g 0 xs.length, .clo 85 [.rp true [pts l]]] [.row false g false 1 (ix xs)] (.sl 0 g 0 (compact (sameB l) xs).2) [.row false g false 1 (ix (compact (sameB l) xs).1)] := by
  refine callsF_cw hm hf84 (by simp [cf84]) ?_
  simp only [cf84, argsAl]
  refine CW.rI fun K hK => ?_
  simp (maxSteps := 4000000) only [amC, amR, setO, Am.set, dr3, dr4, AV.elem, AV.cells, AV.one, loadAV, faddrAV, binAV, storeAV, AV.putCells, AV.ref, if_true, if_false, Nat.reduceEqDiff, Nat.reduceAdd, Nat.reduceLT, Nat.reduceLeDiff, reduceCtorEq, ↓reduceIte, pickAV, lenAV, intAV, slcA, slcAV, iaddrAV, extAV, fldAV, eqCell, contAV, appendAV, maxI, minI, Option.some.injEq, catT]
  refine hK _ _ nofun ?_
  clear hK K
  refine CW.seq ?_
  by_cases h2 : (xs.length : Int) < 2
  · have hc : compact (sameB l) xs = (xs, xs.length) := by unfold compact; rw [if_pos (by omega)]
    rw [hc]
    refine CW.rI fun K hK => ?_
    simp (maxSteps := 4000000) only [amC, amR, setO, Am.set, dr3, dr4, AV.elem, AV.cells, AV.one, loadAV, faddrAV, binAV, storeAV, AV.putCells, AV.ref, if_true, if_false, Nat.reduceEqDiff, Nat.reduceAdd, Nat.reduceLT, Nat.reduceLeDiff, reduceCtorEq, ↓reduceIte, pickAV, lenAV, intAV, slcA, slcAV, iaddrAV, extAV, fldAV, eqCell, contAV, appendAV, maxI, minI, Option.some.injEq, catT, h2]
    refine hK _ _ nofun ?_
    clear hK K
    refine CW.condT rfl ?_
    refine CW.rI fun K hK => ?_
    simp (maxSteps := 4000000) only [amC, amR, setO, Am.set, dr3, dr4, AV.elem, AV.cells, AV.one, loadAV, faddrAV, binAV, storeAV, AV.putCells, AV.ref, if_true, if_false, Nat.reduceEqDiff, Nat.reduceAdd, Nat.reduceLT, Nat.reduceLeDiff, reduceCtorEq, ↓reduceIte, pickAV, lenAV, intAV, slcA, slcAV, iaddrAV, extAV, fldAV, eqCell, contAV, appendAV, maxI, minI, Option.some.injEq, catT]
    refine hK _ _ nofun ?_
    clear hK K
    exact CW.ret (finK_rows (.inr rfl) (xs := [.sl 0 g 0 xs.length]) (by simp [resRV, Am.get]) rfl rfl rfl (by simp) rfl (fun b hb => by rw [List.mem_singleton.1 hb]; simp only [Blk.allR, allRL_ix]))
  · have hc0 : compact (sameB l) xs = compOut (sameB l) (xs.length - 1) 1 xs := by unfold compact; rw [if_neg (by omega)]
    refine CW.rI fun K hK => ?_
    simp (maxSteps := 4000000) only [amC, amR, setO, Am.set, dr3, dr4, AV.elem, AV.cells, AV.one, loadAV, faddrAV, binAV, storeAV, AV.putCells, AV.ref, if_true, if_false, Nat.reduceEqDiff, Nat.reduceAdd, Nat.reduceLT, Nat.reduceLeDiff, reduceCtorEq, ↓reduceIte, pickAV, lenAV, intAV, slcA, slcAV, iaddrAV, extAV, fldAV, eqCell, contAV, appendAV, maxI, minI, Option.some.injEq, catT, h2]
    refine hK _ _ nofun ?_
    clear hK K
    refine CW.condF rfl (CW.skip ?_)
    show CW _ _ _ _ _ _
    refine CW.seq ?_
    refine CW.rI fun K hK => ?_
    simp (maxSteps := 4000000) only [amC, amR, setO, Am.set, dr3, dr4, AV.elem, AV.cells, AV.one, loadAV, faddrAV, binAV, storeAV, AV.putCells, AV.ref, if_true, if_false, Nat.reduceEqDiff, Nat.reduceAdd, Nat.reduceLT, Nat.reduceLeDiff, reduceCtorEq, ↓reduceIte, pickAV, lenAV, intAV, slcA, slcAV, iaddrAV, extAV, fldAV, eqCell, contAV, appendAV, maxI, minI, Option.some.injEq, catT]
    refine hK _ _ nofun ?_
    clear hK K
    refine CW.block ?_
    refine CW.loopF (fun k : Nat => xs.length - k) (fun k => ⟨[(0, .sl 0 g 0 xs.length), (1, .clo 85 [.rp true [pts l]]), (5, .int .i64 (k : Int))], [.row false g false 1 (ix xs)]⟩)
      (fun k => 1 ≤ k ∧ k ≤ xs.length ∧ compOut (sameB l) (xs.length - k) k xs = compact (sameB l) xs) (fun k hk => ?_) 1 ⟨Nat.le_refl _, by omega, hc0.symm⟩ _ (Fgt.mk' 1 (by simp) (by simp [keepB, Am.get, AV.lt, ltL, lt_pts]) rfl ⟨by simp only [Blk.lt, ltL_ix], trivial⟩)
    obtain ⟨hk1, hk2, hkc⟩ := hk
    refine CW.seq ?_
    by_cases h : (k : Int) < (xs.length : Int)
    · refine CW.rI fun K hK => ?_
      simp (maxSteps := 4000000) only [amC, amR, setO, Am.set, dr3, dr4, AV.elem, AV.cells, AV.one, loadAV, faddrAV, binAV, storeAV, AV.putCells, AV.ref, if_true, if_false, Nat.reduceEqDiff, Nat.reduceAdd, Nat.reduceLT, Nat.reduceLeDiff, reduceCtorEq, ↓reduceIte, pickAV, lenAV, intAV, slcA, slcAV, iaddrAV, extAV, fldAV, eqCell, contAV, appendAV, maxI, minI, Option.some.injEq, catT, h]
      refine hK _ _ nofun ?_
      clear hK K
      refine CW.condT rfl (CW.skip ?_)
      show CW _ _ _ _ _ _
      refine CW.seq ?_
      refine CW.block ?_
      obtain ⟨j, rfl⟩ : ∃ j, k = j + 1 := ⟨k - 1, by omega⟩
      have hj1 : j + 1 < xs.length := by omega
      have g1 := ix_get xs hj1
      have g0 := ix_get xs (show j < xs.length by omega)
      have b1 := getD_lt hx hj1
      have b0 := getD_lt hx (show j < xs.length by omega)
      have w1 := wrap_pred j (by omega)
      have p3 : ((j : Nat) : Int) < ((xs.length : Nat) : Int) := by omega
      have hf : xs.length - (j + 1) = (xs.length - (j + 1) - 1) + 1 := by omega
      rw [hf] at hkc
      simp only [compOut, Nat.add_sub_cancel] at hkc
      refine CW.rI fun K hK => ?_
      simp (maxSteps := 4000000) only [amC, amR, setO, Am.set, dr3, dr4, AV.elem, AV.cells, AV.one, loadAV, faddrAV, binAV, storeAV, AV.putCells, AV.ref, if_true, if_false, Nat.reduceEqDiff, Nat.reduceAdd, Nat.reduceLT, Nat.reduceLeDiff, reduceCtorEq, ↓reduceIte, pickAV, lenAV, intAV, slcA, slcAV, iaddrAV, extAV, fldAV, eqCell, contAV, appendAV, maxI, minI, Option.some.injEq, catT, h, w1, p3, Int.natCast_nonneg, Int.toNat_natCast, g1, g0, AV.cells]
      refine RunCall.view (fid := 85) (caps := [.rp true [pts l]]) rfl rfl (viewArgs_flat3 rfl rfl (flat_rp l)) (c85 (getp b1) (getp b0)) rfl ?_
      simp (maxSteps := 4000000) only [amC, amR, setO, Am.set, dr3, dr4, AV.elem, AV.cells, AV.one, loadAV, faddrAV, binAV, storeAV, AV.putCells, AV.ref, if_true, if_false, Nat.reduceEqDiff, Nat.reduceAdd, Nat.reduceLT, Nat.reduceLeDiff, reduceCtorEq, ↓reduceIte, pickAV, lenAV, intAV, slcA, slcAV, iaddrAV, extAV, fldAV, eqCell, contAV, appendAV, maxI, minI, Option.some.injEq, catT]
      refine hK _ _ (fun _ => rfl) ?_
      clear hK K
      by_cases he : sameB l (xs.getD (j + 1) 0) (xs.getD j 0) = true
      · rw [if_pos he] at hkc
        have he' : eqP (l.getD (xs.getD (j + 1) 0) (0, 0)) (l.getD (xs.getD j 0) (0, 0)) = true := he
        rw [he']
        refine CW.condT rfl ?_
        refine CW.rI fun K hK => ?_
        simp (maxSteps := 4000000) only [amC, amR, setO, Am.set, dr3, dr4, AV.elem, AV.cells, AV.one, loadAV, faddrAV, binAV, storeAV, AV.putCells, AV.ref, if_true, if_false, Nat.reduceEqDiff, Nat.reduceAdd, Nat.reduceLT, Nat.reduceLeDiff, reduceCtorEq, ↓reduceIte, pickAV, lenAV, intAV, slcA, slcAV, iaddrAV, extAV, fldAV, eqCell, contAV, appendAV, maxI, minI, Option.some.injEq, catT, Int.natCast_nonneg, Int.toNat_natCast, show ((j + 1 : Nat) : Int) ≤ ((xs.length : Nat) : Int) from by omega, Int.le_refl]
        refine hK _ _ nofun ?_
        clear hK K
        have en : (((xs.length : Nat) : Int) - ((j + 1 : Nat) : Int)).toNat = xs.length - (j + 1) := by omega
        rw [en]
        refine CW.seq ?_
        refine CW.rI fun K hK => ?_
        simp (maxSteps := 4000000) only [amC, amR, setO, Am.set, dr3, dr4, AV.elem, AV.cells, AV.one, loadAV, faddrAV, binAV, storeAV, AV.putCells, AV.ref, if_true, if_false, Nat.reduceEqDiff, Nat.reduceAdd, Nat.reduceLT, Nat.reduceLeDiff, reduceCtorEq, ↓reduceIte, pickAV, lenAV, intAV, slcA, slcAV, iaddrAV, extAV, fldAV, eqCell, contAV, appendAV, maxI, minI, Option.some.injEq, catT]
        refine hK _ _ nofun ?_
        clear hK K
        refine CW.block ?_
        refine CW.loopF (fun q : Nat × Nat × List Nat => xs.length - q.1) (fun q => ⟨[(0, .sl 0 g 0 xs.length), (1, .clo 85 [.rp true [pts l]]), (5, .int .i64 (q.2.1 : Int)), (6, .sl 0 g (j + 1) (xs.length - (j + 1))), (7, .int .i64 (q.1 : Int))], [.row false g false 1 (ix q.2.2)]⟩)
          (fun q => 1 ≤ q.1 ∧ (j + 1) + q.1 ≤ xs.length ∧ q.2.2.length = xs.length ∧ (∀ x ∈ q.2.2, x < l.length) ∧ q.2.1 < (j + 1) + q.1 ∧ zeroed xs.length (compIn (sameB l) (j + 1) (xs.length - (j + 1) - q.1) q.1 q.2.1 q.2.2) = compact (sameB l) xs) (fun q hq => ?_) (1, j + 1, xs) ⟨Nat.le_refl _, by simp only; omega, rfl, hx, by simp only; omega, hkc⟩ _ (Fgt.mk' 1 (by simp) (by simp [keepB, Am.get, AV.lt, ltL, lt_pts]) rfl ⟨by simp only [Blk.lt, ltL_ix], trivial⟩)
        obtain ⟨k2, k, ys⟩ := q
        obtain ⟨q1, q2, q3, q4, q5, q6⟩ := hq
        simp only at q1 q2 q3 q4 q5 q6
        refine CW.seq ?_
        by_cases hk2' : (k2 : Int) < ((xs.length - (j + 1) : Nat) : Int)
        · refine CW.rI fun K hK => ?_
          simp (maxSteps := 4000000) only [amC, amR, setO, Am.set, dr3, dr4, AV.elem, AV.cells, AV.one, loadAV, faddrAV, binAV, storeAV, AV.putCells, AV.ref, if_true, if_false, Nat.reduceEqDiff, Nat.reduceAdd, Nat.reduceLT, Nat.reduceLeDiff, reduceCtorEq, ↓reduceIte, pickAV, lenAV, intAV, slcA, slcAV, iaddrAV, extAV, fldAV, eqCell, contAV, appendAV, maxI, minI, Option.some.injEq, catT, hk2']
          refine hK _ _ nofun ?_
          clear hK K
          refine CW.condT rfl (CW.skip ?_)
          show CW _ _ _ _ _ _
          refine CW.seq ?_
          refine CW.block ?_
          obtain ⟨m, rfl⟩ : ∃ m, k2 = m + 1 := ⟨k2 - 1, by omega⟩
          have i1 : j + 1 + (m + 1) < ys.length := by omega
          have g1' := ix_get ys i1
          have g0' := ix_get ys (show j + 1 + m < ys.length by omega)
          have b1' := getD_lt q4 i1
          have b0' := getD_lt q4 (show j + 1 + m < ys.length by omega)
          have w1' := wrap_pred m (by omega)
          have p3' : ((m : Nat) : Int) < ((xs.length - (j + 1) : Nat) : Int) := by omega
          have hf' : xs.length - (j + 1) - (m + 1) = (xs.length - (j + 1) - (m + 1 + 1)) + 1 := by omega
          rw [hf'] at q6
          simp only [compIn] at q6
          rw [show j + 1 + (m + 1) - 1 = j + 1 + m by omega] at q6
          refine CW.rI fun K hK => ?_
          simp (maxSteps := 4000000) only [amC, amR, setO, Am.set, dr3, dr4, AV.elem, AV.cells, AV.one, loadAV, faddrAV, binAV, storeAV, AV.putCells, AV.ref, if_true, if_false, Nat.reduceEqDiff, Nat.reduceAdd, Nat.reduceLT, Nat.reduceLeDiff, reduceCtorEq, ↓reduceIte, pickAV, lenAV, intAV, slcA, slcAV, iaddrAV, extAV, fldAV, eqCell, contAV, appendAV, maxI, minI, Option.some.injEq, catT, hk2', w1', p3', Int.natCast_nonneg, Int.toNat_natCast, g1', g0', AV.cells]
          refine RunCall.view (fid := 85) (caps := [.rp true [pts l]]) rfl rfl (viewArgs_flat3 rfl rfl (flat_rp l)) (c85 (getp b1') (getp b0')) rfl ?_
          by_cases he2 : sameB l (ys.getD (j + 1 + (m + 1)) 0) (ys.getD (j + 1 + m) 0) = true
          · rw [if_pos he2] at q6
            have he2' : eqP (l.getD (ys.getD (j + 1 + (m + 1)) 0) (0, 0)) (l.getD (ys.getD (j + 1 + m) 0) (0, 0)) = true := he2
            rw [he2']
            simp (maxSteps := 4000000) only [amC, amR, setO, Am.set, dr3, dr4, AV.elem, AV.cells, AV.one, loadAV, faddrAV, binAV, storeAV, AV.putCells, AV.ref, if_true, if_false, Nat.reduceEqDiff, Nat.reduceAdd, Nat.reduceLT, Nat.reduceLeDiff, reduceCtorEq, ↓reduceIte, pickAV, lenAV, intAV, slcA, slcAV, iaddrAV, extAV, fldAV, eqCell, contAV, appendAV, maxI, minI, Option.some.injEq, catT]
            refine hK _ _ (fun _ => rfl) ?_
            clear hK K
            refine CW.condF rfl (CW.skip ?_)
            show CW _ _ _ _ _ _
            refine CW.rE fun K hK => ?_
            simp (maxSteps := 4000000) only [amC, amR, setO, Am.set, dr3, dr4, AV.elem, AV.cells, AV.one, loadAV, faddrAV, binAV, storeAV, AV.putCells, AV.ref, if_true, if_false, Nat.reduceEqDiff, Nat.reduceAdd, Nat.reduceLT, Nat.reduceLeDiff, reduceCtorEq, ↓reduceIte, pickAV, lenAV, intAV, slcA, slcAV, iaddrAV, extAV, fldAV, eqCell, contAV, appendAV, maxI, minI, Option.some.injEq, catT, wrap_nat (m + 1) (by omega)]
            refine hK _ _ nofun ?_
            clear hK K
            exact ⟨(m + 1 + 1, k, ys), by simp only; omega, ⟨by simp only; omega, by simp only; omega, q3, q4, by simp only; omega, q6⟩, Fgt.mk' 1 (by simp) (by simp [keepB, Am.get, AV.lt, ltL, lt_pts]) rfl ⟨by simp only [Blk.lt, ltL_ix], trivial⟩⟩
          · rw [if_neg he2] at q6
            have he2' : eqP (l.getD (ys.getD (j + 1 + (m + 1)) 0) (0, 0)) (l.getD (ys.getD (j + 1 + m) 0) (0, 0)) = false := by simpa [sameB] using he2
            rw [he2']
            have hkl : (k : Int) < ((xs.length : Nat) : Int) := by omega
            have gk := ix_get ys (show k < ys.length by omega)
            simp (maxSteps := 4000000) only [amC, amR, setO, Am.set, dr3, dr4, AV.elem, AV.cells, AV.one, loadAV, faddrAV, binAV, storeAV, AV.putCells, AV.ref, if_true, if_false, Nat.reduceEqDiff, Nat.reduceAdd, Nat.reduceLT, Nat.reduceLeDiff, reduceCtorEq, ↓reduceIte, pickAV, lenAV, intAV, slcA, slcAV, iaddrAV, extAV, fldAV, eqCell, contAV, appendAV, maxI, minI, Option.some.injEq, catT]
            refine hK _ _ (fun _ => rfl) ?_
            clear hK K
            refine CW.condT rfl ?_
            refine CW.rI fun K hK => ?_
            simp (maxSteps := 4000000) only [amC, amR, setO, Am.set, dr3, dr4, AV.elem, AV.cells, AV.one, loadAV, faddrAV, binAV, storeAV, AV.putCells, AV.ref, if_true, if_false, Nat.reduceEqDiff, Nat.reduceAdd, Nat.reduceLT, Nat.reduceLeDiff, reduceCtorEq, ↓reduceIte, pickAV, lenAV, intAV, slcA, slcAV, iaddrAV, extAV, fldAV, eqCell, contAV, appendAV, maxI, minI, Option.some.injEq, catT, hk2', hkl, Int.natCast_nonneg, Int.toNat_natCast, g1', gk, AV.cells, AV.elem, AV.one, List.all_cons, List.all_nil, ix_set]
            refine hK _ _ nofun ?_
            clear hK K
            refine CW.rE fun K hK => ?_
            simp (maxSteps := 4000000) only [amC, amR, setO, Am.set, dr3, dr4, AV.elem, AV.cells, AV.one, loadAV, faddrAV, binAV, storeAV, AV.putCells, AV.ref, if_true, if_false, Nat.reduceEqDiff, Nat.reduceAdd, Nat.reduceLT, Nat.reduceLeDiff, reduceCtorEq, ↓reduceIte, pickAV, lenAV, intAV, slcA, slcAV, iaddrAV, extAV, fldAV, eqCell, contAV, appendAV, maxI, minI, Option.some.injEq, catT, wrap_nat k (by omega)]
            refine hK _ _ nofun ?_
            clear hK K
            refine CW.rE fun K hK => ?_
            simp (maxSteps := 4000000) only [amC, amR, setO, Am.set, dr3, dr4, AV.elem, AV.cells, AV.one, loadAV, faddrAV, binAV, storeAV, AV.putCells, AV.ref, if_true, if_false, Nat.reduceEqDiff, Nat.reduceAdd, Nat.reduceLT, Nat.reduceLeDiff, reduceCtorEq, ↓reduceIte, pickAV, lenAV, intAV, slcA, slcAV, iaddrAV, extAV, fldAV, eqCell, contAV, appendAV, maxI, minI, Option.some.injEq, catT, wrap_nat (m + 1) (by omega)]
            refine hK _ _ nofun ?_
            clear hK K
            refine ⟨(m + 1 + 1, k + 1, ys.set k (ys.getD (j + 1 + (m + 1)) 0)), by simp only; omega, ⟨by simp only; omega, by simp only; omega, by simp [q3], ?_, by simp only; omega, q6⟩, Fgt.mk' 1 (by simp) (by simp [keepB, Am.get, AV.lt, ltL, lt_pts]) rfl ⟨by simp only [Blk.lt, ltL_ix], trivial⟩⟩
            intro x hx'
            rcases List.mem_or_eq_of_mem_set hx' with h1 | h1
            · exact q4 x h1
            · rw [h1]; exact b1'
        · refine CW.rI fun K hK => ?_
          simp (maxSteps := 4000000) only [amC, amR, setO, Am.set, dr3, dr4, AV.elem, AV.cells, AV.one, loadAV, faddrAV, binAV, storeAV, AV.putCells, AV.ref, if_true, if_false, Nat.reduceEqDiff, Nat.reduceAdd, Nat.reduceLT, Nat.reduceLeDiff, reduceCtorEq, ↓reduceIte, pickAV, lenAV, intAV, slcA, slcAV, iaddrAV, extAV, fldAV, eqCell, contAV, appendAV, maxI, minI, Option.some.injEq, catT, hk2']
          refine hK _ _ nofun ?_
          clear hK K
          refine CW.condF rfl (CW.exit ?_)
          show CW _ _ _ _ _ _
          have hz : xs.length - (j + 1) - k2 = 0 := by omega
          rw [hz] at q6
          simp only [compIn, zeroed] at q6
          have hkl : (k : Int) ≤ ((xs.length : Nat) : Int) := by omega
          have en2 : (((xs.length : Nat) : Int) - (k : Int)).toNat = xs.length - k := by omega
          have hfit : k + (xs.length - k) ≤ (ix ys).length := by rw [ix_length]; omega
          refine CW.rI fun K hK => ?_
          simp (maxSteps := 4000000) only [amC, amR, setO, Am.set, dr3, dr4, AV.elem, AV.cells, AV.one, loadAV, faddrAV, binAV, storeAV, AV.putCells, AV.ref, if_true, if_false, Nat.reduceEqDiff, Nat.reduceAdd, Nat.reduceLT, Nat.reduceLeDiff, reduceCtorEq, ↓reduceIte, pickAV, lenAV, intAV, slcA, slcAV, iaddrAV, extAV, fldAV, eqCell, contAV, appendAV, maxI, minI, Option.some.injEq, catT, hkl, Int.natCast_nonneg, Int.toNat_natCast, Int.le_refl, en2, clearAV, hfit, show (AV.int .i64 (0 : Int)).elem = true from rfl, show (AV.int .i64 (0 : Int)).cells.length = 1 from rfl, or_true]
          refine hK _ _ nofun ?_
          clear hK K
          refine CW.rI fun K hK => ?_
          simp (maxSteps := 4000000) only [amC, amR, setO, Am.set, dr3, dr4, AV.elem, AV.cells, AV.one, loadAV, faddrAV, binAV, storeAV, AV.putCells, AV.ref, if_true, if_false, Nat.reduceEqDiff, Nat.reduceAdd, Nat.reduceLT, Nat.reduceLeDiff, reduceCtorEq, ↓reduceIte, pickAV, lenAV, intAV, slcA, slcAV, iaddrAV, extAV, fldAV, eqCell, contAV, appendAV, maxI, minI, Option.some.injEq, catT, hkl, Int.natCast_nonneg, Int.toNat_natCast, Int.le_refl, Int.sub_zero, Int.toNat_zero]
          refine hK _ _ nofun ?_
          clear hK K
          have e1 : (ix ys).take k ++ List.replicate (xs.length - k) (AV.int .i64 0) ++ (ix ys).drop (k + (xs.length - k)) = ix (compact (sameB l) xs).1 := by
            rw [← q6]
            rw [List.drop_of_length_le (by rw [ix_length]; omega), List.append_nil, ix_take]
            simp [ix]
          have e2 : k = (compact (sameB l) xs).2 := by rw [← q6]
          exact CW.ret (finK_rows (.inr rfl) (xs := [.sl 0 g 0 (compact (sameB l) xs).2]) (by simp [resRV, Am.get, e2]) rfl rfl rfl (by simp) (by simp [← e1]) (fun b hb => by rw [List.mem_singleton.1 hb]; simp only [Blk.allR, allRL_ix]))
      · rw [if_neg he] at hkc
        have he' : eqP (l.getD (xs.getD (j + 1) 0) (0, 0)) (l.getD (xs.getD j 0) (0, 0)) = false := by simpa [sameB] using he
        rw [he']
        refine CW.condF rfl (CW.skip ?_)
        show CW _ _ _ _ _ _
        refine CW.rE fun K hK => ?_
        simp (maxSteps := 4000000) only [amC, amR, setO, Am.set, dr3, dr4, AV.elem, AV.cells, AV.one, loadAV, faddrAV, binAV, storeAV, AV.putCells, AV.ref, if_true, if_false, Nat.reduceEqDiff, Nat.reduceAdd, Nat.reduceLT, Nat.reduceLeDiff, reduceCtorEq, ↓reduceIte, pickAV, lenAV, intAV, slcA, slcAV, iaddrAV, extAV, fldAV, eqCell, contAV, appendAV, maxI, minI, Option.some.injEq, catT, wrap_nat (j + 1) (by omega)]
        refine hK _ _ nofun ?_
        clear hK K
        exact ⟨j + 1 + 1, by omega, ⟨by omega, by omega, hkc⟩, Fgt.mk' 1 (by simp) (by simp [keepB, Am.get, AV.lt, ltL, lt_pts]) rfl ⟨by simp only [Blk.lt, ltL_ix], trivial⟩⟩
    · refine CW.rI fun K hK => ?_
      simp (maxSteps := 4000000) only [amC, amR, setO, Am.set, dr3, dr4, AV.elem, AV.cells, AV.one, loadAV, faddrAV, binAV, storeAV, AV.putCells, AV.ref, if_true, if_false, Nat.reduceEqDiff, Nat.reduceAdd, Nat.reduceLT, Nat.reduceLeDiff, reduceCtorEq, ↓reduceIte, pickAV, lenAV, intAV, slcA, slcAV, iaddrAV, extAV, fldAV, eqCell, contAV, appendAV, maxI, minI, Option.some.injEq, catT, h]
      refine hK _ _ nofun ?_
      clear hK K
      refine CW.condF rfl (CW.exit ?_)
      show CW _ _ _ _ _ _
      have hz : xs.length - k = 0 := by omega
      rw [hz] at hkc
      simp only [compOut] at hkc
      rw [← hkc]
      refine CW.rI fun K hK => ?_
      simp (maxSteps := 4000000) only [amC, amR, setO, Am.set, dr3, dr4, AV.elem, AV.cells, AV.one, loadAV, faddrAV, binAV, storeAV, AV.putCells, AV.ref, if_true, if_false, Nat.reduceEqDiff, Nat.reduceAdd, Nat.reduceLT, Nat.reduceLeDiff, reduceCtorEq, ↓reduceIte, pickAV, lenAV, intAV, slcA, slcAV, iaddrAV, extAV, fldAV, eqCell, contAV, appendAV, maxI, minI, Option.some.injEq, catT]
      refine hK _ _ nofun ?_
      clear hK K
      exact CW.ret (finK_rows (.inr rfl) (xs := [.sl 0 g 0 xs.length]) (by simp [resRV, Am.get]) rfl rfl rfl (by simp) rfl (fun b hb => by rw [List.mem_singleton.1 hb]; simp only [Blk.allR, allRL_ix]))
end Go.Hull
end
section
set_option linter.unusedSimpArgs false
set_option linter.unusedVariables false
set_option maxHeartbeats 2000000
namespace Go.Hull
open Go Go.Am Go.Proofs

theorem c87' (g n : Nat) (xs : List Nat) (hnx : n ≤ xs.length) (hn : n < 4611686018427387904) :
    CallsF Try.prog 87 [.sl 0 g 0 n] [.row false g false 1 (ix xs)] (.tup []) [.row false g false 1 (ix (rv n n 0 xs))] := by
  have hw : IntKind.i64.wrap ((n : Int) - 1) = (n : Int) - 1 := wr _ (by omega) (by omega)
  refine callsF_cw hm hf87 (by simp [cf87]) ?_
  simp only [cf87, argsAl]
  refine CW.rI fun K hK => ?_
  simp (maxSteps := 4000000) only [amC, amR, setO, Am.set, dr3, dr4, AV.elem, AV.cells, AV.one, loadAV, faddrAV, binAV, storeAV, AV.putCells, AV.ref, if_true, if_false, Nat.reduceEqDiff, Nat.reduceAdd, Nat.reduceLT, Nat.reduceLeDiff, reduceCtorEq, ↓reduceIte, pickAV, lenAV, intAV, slcA, slcAV, iaddrAV, extAV, fldAV, eqCell, contAV, appendAV, maxI, minI, Option.some.injEq, catT, hw]
  refine hK _ _ nofun ?_
  clear hK K
  refine CW.block ?_
  refine CW.loopF (fun q : Nat × List Nat => n - q.1) (fun q => ⟨[(0, .sl 0 g 0 n), (2, .int .i64 (q.1 : Int)), (3, .int .i64 ((n : Int) - 1 - (q.1 : Int)))], [.row false g false 1 (ix q.2)]⟩)
    (fun q => q.1 ≤ n ∧ q.2.length = xs.length ∧ rv n (n - q.1) q.1 q.2 = rv n n 0 xs) (fun q hq => ?_) (0, xs) ⟨Nat.zero_le _, rfl, rfl⟩ _ (Fgt.mk' 1 (by simp) (by simp [keepB, Am.get, AV.lt, ltL]) rfl ⟨by simp only [Blk.lt, ltL_ix], trivial⟩)
  obtain ⟨i, ys⟩ := q
  obtain ⟨hi, hl, hr⟩ := hq
  simp only at hi hl hr
  refine CW.seq ?_
  by_cases h : (i : Int) < (n : Int) - 1 - (i : Int)
  · obtain ⟨j, hj⟩ : ∃ j : Nat, (n : Int) - 1 - (i : Int) = (j : Int) := ⟨n - 1 - i, by omega⟩
    have hjn : j = n - 1 - i := by omega
    have hij : i < j := by omega
    have hi1 : i < ys.length := by omega
    have hj1 : j < ys.length := by omega
    rw [hj] at h ⊢
    refine CW.rI fun K hK => ?_
    simp (maxSteps := 4000000) only [amC, amR, setO, Am.set, dr3, dr4, AV.elem, AV.cells, AV.one, loadAV, faddrAV, binAV, storeAV, AV.putCells, AV.ref, if_true, if_false, Nat.reduceEqDiff, Nat.reduceAdd, Nat.reduceLT, Nat.reduceLeDiff, reduceCtorEq, ↓reduceIte, pickAV, lenAV, intAV, slcA, slcAV, iaddrAV, extAV, fldAV, eqCell, contAV, appendAV, maxI, minI, Option.some.injEq, catT, h]
    refine hK _ _ nofun ?_
    clear hK K
    refine CW.condT rfl (CW.skip ?_)
    show CW _ _ _ _ _ _
    refine CW.seq ?_
    refine CW.block ?_
    have a1 : (i : Int) < ((n : Nat) : Int) := by omega
    have a2 : (j : Int) < ((n : Nat) : Int) := by omega
    refine CW.rE fun K hK => ?_
    simp (maxSteps := 4000000) only [amC, amR, setO, Am.set, dr3, dr4, AV.elem, AV.cells, AV.one, loadAV, faddrAV, binAV, storeAV, AV.putCells, AV.ref, if_true, if_false, Nat.reduceEqDiff, Nat.reduceAdd, Nat.reduceLT, Nat.reduceLeDiff, reduceCtorEq, ↓reduceIte, pickAV, lenAV, intAV, slcA, slcAV, iaddrAV, extAV, fldAV, eqCell, contAV, appendAV, maxI, minI, Option.some.injEq, catT, a1, a2, Int.natCast_nonneg, Int.toNat_natCast, ix_get ys hi1, ix_get ys hj1, AV.cells, AV.elem, AV.one, List.all_cons, List.all_nil, ix_set, ix_get (ys.set i (ys.getD j 0)) (show j < (ys.set i (ys.getD j 0)).length by simp; omega)]
    refine hK _ _ (fun _ => rfl) ?_
    clear hK K
    have w2 : IntKind.i64.wrap ((j : Int) - 1) = (n : Int) - 1 - ((i + 1 : Nat) : Int) := by rw [wr _ (by omega) (by omega)]; omega
    refine CW.rE fun K hK => ?_
    simp (maxSteps := 4000000) only [amC, amR, setO, Am.set, dr3, dr4, AV.elem, AV.cells, AV.one, loadAV, faddrAV, binAV, storeAV, AV.putCells, AV.ref, if_true, if_false, Nat.reduceEqDiff, Nat.reduceAdd, Nat.reduceLT, Nat.reduceLeDiff, reduceCtorEq, ↓reduceIte, pickAV, lenAV, intAV, slcA, slcAV, iaddrAV, extAV, fldAV, eqCell, contAV, appendAV, maxI, minI, Option.some.injEq, catT, wrap_nat i (by omega), w2]
    refine hK _ _ nofun ?_
    clear hK K
    refine ⟨(i + 1, (ys.set i (ys.getD j 0)).set j (ys.getD i 0)), by simp only; omega, ⟨by simp only; omega, by simp [hl], ?_⟩, Fgt.mk' 1 (by simp) (by simp [keepB, Am.get, AV.lt, ltL]) rfl ⟨by simp only [Blk.lt, ltL_ix], trivial⟩⟩
    rw [← hr]
    have e : n - i = (n - (i + 1)) + 1 := by omega
    rw [e]
    simp only [rv]
    rw [if_pos (by omega), hjn]
  · refine CW.rI fun K hK => ?_
    simp (maxSteps := 4000000) only [amC, amR, setO, Am.set, dr3, dr4, AV.elem, AV.cells, AV.one, loadAV, faddrAV, binAV, storeAV, AV.putCells, AV.ref, if_true, if_false, Nat.reduceEqDiff, Nat.reduceAdd, Nat.reduceLT, Nat.reduceLeDiff, reduceCtorEq, ↓reduceIte, pickAV, lenAV, intAV, slcA, slcAV, iaddrAV, extAV, fldAV, eqCell, contAV, appendAV, maxI, minI, Option.some.injEq, catT, h]
    refine hK _ _ nofun ?_
    clear hK K
    refine CW.condF rfl (CW.exit ?_)
    have hys : ys = rv n n 0 xs := by
      rw [← hr]
      cases hf : n - i with
      | zero => rfl
      | succ f =>
        simp only [rv]
        rw [if_neg (by omega)]
    subst hys
    exact finK_keep (.inl rfl) (xs := []) rfl rfl rfl (by simp) rfl (fun b hb => by rw [List.mem_singleton.1 hb]; simp only [Blk.allR, allRL_ix])
end Go.Hull
end
section
set_option linter.unusedSimpArgs false
set_option linter.unusedVariables false
set_option maxHeartbeats 2000000
namespace Go.Hull
open Go Go.Am Go.Proofs

theorem optL_self {f : AV → Option (AV × List Nat)} : ∀ (l : List AV), (∀ x ∈ l, f x = some (x, [])) → optL f l = some (l.map fun x => (x, [])) := by
  intro l
  induction l with
  | nil => intro _; rfl
  | cons x l ih => intro h; simp only [optL, h x (by simp), ih (fun y hy => h y (by simp [hy])), List.map_cons]
theorem catT_nil : ∀ (l : List AV), catT (l.map fun x => (x, ([] : List Nat))) = [] := by
  intro l
  induction l with
  | nil => rfl
  | cons x l ih => simp only [List.map_cons, catT, ih, List.append_nil]
theorem viewG_ix {hl : List Blk} {b g i k : Nat} {nil frz : Bool} {xs : List Nat} (hb : hget hl b = .row nil g frz 1 (ix xs)) (h : i + k ≤ xs.length) : viewG hl 6 (.sl b g i k) = some (.sv false 1 (ix ((xs.drop i).take k)), [b]) := by
  have he : ((ix xs).drop i).take k = ix ((xs.drop i).take k) := by rw [ix_drop, ix_take]
  have h1 : optL (viewG hl 5) (ix ((xs.drop i).take k)) = some ((ix ((xs.drop i).take k)).map fun x => (x, [])) := optL_self _ fun x hx => by
    obtain ⟨n, -, rfl⟩ := List.mem_map.1 hx
    exact viewG_flat rfl 4
  have h2 : (((ix ((xs.drop i).take k)).map fun x => (x, ([] : List Nat))).all fun y => Nat.beq y.1.cells.length 1) = true := by
    rw [List.all_eq_true]
    intro y hy
    obtain ⟨x, hx, rfl⟩ := List.mem_map.1 hy
    obtain ⟨n, -, rfl⟩ := List.mem_map.1 hx
    rfl
  have hc : True ∧ i + k ≤ (ix xs).length := ⟨trivial, by rw [ix_length]; exact h⟩
  unfold viewG
  simp only [flatN, AV.lt, Nat.not_lt_zero, decide_false, Bool.false_eq_true, if_false, hb]
  rw [if_pos hc]
  simp only [he, h1, h2, if_true, List.map_map, Function.comp_def, List.map_id', catT_nil]
theorem viewG_ptr {hl : List Blk} {b g sz : Nat} {nil frz : Bool} {y : AV} (hb : hget hl b = .row nil g frz sz [y]) (hy : flatN true 5 y = true) (hone : y.cells = [y]) : viewG hl 6 (.ptr b g 0 0) = some (.rp true [y], [b]) := by
  have h1 : viewG hl 5 y = some (y, []) := by simp only [viewG, hy]
  unfold viewG
  simp only [flatN, AV.lt, Nat.not_lt_zero, decide_false, Bool.false_eq_true, if_false, hb, if_true, List.getElem?_cons_zero, hone, List.drop_zero, optL, h1, List.map_cons, List.map_nil, catT, List.append_nil]
theorem viewArgs2 {hl : List Blk} {x y x' y' : AV} {T T' : List Nat} (h1 : viewG hl 6 x = some (x', T)) (h2 : viewG hl 6 y = some (y', T')) : viewArgs hl [x, y] = some ([x', y'], T ++ T') := by
  simp only [viewArgs, h1, h2, List.append_nil]
/-- The numbers of the different points, in order, with zeros behind. -/
def compI (l : List Pt) : List Nat × Nat := compact (sameB l) (orderI l)
def distI (l : List Pt) : List Nat := (compI l).1.take (compI l).2
theorem outer_mem (lt : Nat → Nat → Bool) {n : Nat} : ∀ (k i : Nat) (xs : List Nat), i + k ≤ xs.length → (∀ x ∈ xs, x < n) → ∀ x ∈ outer lt k i xs, x < n := by
  intro k
  induction k with
  | zero => intro i xs _ h; exact h
  | succ k ih =>
    intro i xs hi h
    simp only [outer]
    exact ih (i + 1) _ (by rw [inner_length]; omega) (inner_mem lt i xs (by omega) h)
theorem orderI_mem (l : List Pt) : ∀ x ∈ orderI l, x < l.length := by
  unfold orderI insort
  by_cases h : l.length = 0
  · rw [h]; intro x hx; simp [outer] at hx
  · exact outer_mem _ _ _ _ (by simp; omega) (fun x hx => List.mem_range.1 hx)
theorem orderI_length (l : List Pt) : (orderI l).length = l.length := by unfold orderI; rw [insort_length, List.length_range]
theorem compIn_spec (eq : Nat → Nat → Bool) {n : Nat} (k0 : Nat) : ∀ (f k2 k : Nat) (xs : List Nat), k < k0 + k2 → k0 + k2 + f ≤ xs.length → (∀ x ∈ xs, x < n) → (compIn eq k0 f k2 k xs).1.length = xs.length ∧ (∀ x ∈ (compIn eq k0 f k2 k xs).1, x < n) ∧ (compIn eq k0 f k2 k xs).2 ≤ k + f ∧ k ≤ (compIn eq k0 f k2 k xs).2 := by
  intro f
  induction f with
  | zero => intro k2 k xs _ _ h; exact ⟨rfl, h, Nat.le_refl _, Nat.le_refl _⟩
  | succ f ih =>
    intro k2 k xs hk hf h
    simp only [compIn]
    split
    · obtain ⟨a1, a2, a3, a4⟩ := ih (k2 + 1) k xs (by omega) (by omega) h
      exact ⟨a1, a2, by omega, a4⟩
    · obtain ⟨a1, a2, a3, a4⟩ := ih (k2 + 1) (k + 1) (xs.set k (xs.getD (k0 + k2) 0)) (by omega) (by simp; omega) (fun x hx => by
        rcases List.mem_or_eq_of_mem_set hx with h1 | h1
        · exact h x h1
        · rw [h1]; exact getD_lt h (by omega))
      exact ⟨by simpa using a1, a2, by omega, by omega⟩
theorem compOut_spec (eq : Nat → Nat → Bool) {n : Nat} (hn : 0 < n) : ∀ (f k : Nat) (xs : List Nat), 1 ≤ k → k + f ≤ xs.length → (∀ x ∈ xs, x < n) → (compOut eq f k xs).1.length = xs.length ∧ (∀ x ∈ (compOut eq f k xs).1, x < n) ∧ (compOut eq f k xs).2 ≤ xs.length ∧ (1 ≤ xs.length → 1 ≤ (compOut eq f k xs).2) := by
  intro f
  induction f with
  | zero => intro k xs _ _ h; exact ⟨rfl, h, Nat.le_refl _, id⟩
  | succ f ih =>
    intro k xs hk hf h
    simp only [compOut]
    split
    · obtain ⟨a1, a2, a3, a4⟩ := compIn_spec eq k (xs.length - k - 1) 1 k xs (by omega) (by omega) h
      refine ⟨?_, fun x hx => ?_, by simp only [zeroed]; omega, fun _ => by simp only [zeroed]; omega⟩
      · simp only [zeroed, List.length_append, List.length_take, List.length_replicate, a1]; omega
      · simp only [zeroed] at hx
        rcases List.mem_append.1 hx with h1 | h1
        · exact a2 x (List.mem_of_mem_take h1)
        · rw [List.eq_of_mem_replicate h1]; exact hn
    · exact ih (k + 1) xs (by omega) (by omega) h
theorem compI_spec {l : List Pt} (hl : 0 < l.length) : (compI l).1.length = l.length ∧ (∀ x ∈ (compI l).1, x < l.length) ∧ (compI l).2 ≤ l.length ∧ 1 ≤ (compI l).2 := by
  unfold compI compact
  have h1 := orderI_length l
  split
  · exact ⟨h1, orderI_mem l, by simp only; omega, by simp only; omega⟩
  · obtain ⟨a1, a2, a3, a4⟩ := compOut_spec (sameB l) hl ((orderI l).length - 1) 1 (orderI l) (Nat.le_refl _) (by omega) (orderI_mem l)
    exact ⟨by rw [a1, h1], a2, by omega, a4 (by omega)⟩
theorem rv_length (n : Nat) : ∀ (f i : Nat) (xs : List Nat), (rv n f i xs).length = xs.length := by
  intro f
  induction f with
  | zero => intro i xs; rfl
  | succ f ih => intro i xs; simp only [rv]; split <;> simp [ih]
theorem rv_mem {n m : Nat} : ∀ (f i : Nat) (xs : List Nat), n ≤ xs.length → (∀ x ∈ xs, x < m) → ∀ x ∈ rv n f i xs, x < m := by
  intro f
  induction f with
  | zero => intro i xs _ h; exact h
  | succ f ih =>
    intro i xs hn h
    simp only [rv]
    split
    · rename_i hi
      refine ih (i + 1) _ (by simp; omega) fun x hx => ?_
      rcases List.mem_or_eq_of_mem_set hx with h1 | h1
      · rcases List.mem_or_eq_of_mem_set h1 with h2 | h2
        · exact h x h2
        · rw [h2]; exact getD_lt h (by omega)
      · rw [h1]; exact getD_lt h (by omega)
    · exact h
/-- The vertices, as they are found. -/
def revI (l : List Pt) : List Nat := (rv (compI l).2 (compI l).2 0 (compI l).1).take (compI l).2
def hullI (l : List Pt) : List Nat :=
  if (compI l).2 < 3 then distI l
  else ((chainS l (distI l)).reverse.take ((chainS l (distI l)).length - 1)) ++ ((chainS l (revI l)).reverse.take ((chainS l (revI l)).length - 1))
theorem distI_length {l : List Pt} (hl : 0 < l.length) : (distI l).length = (compI l).2 := by
  obtain ⟨a1, a2, a3, a4⟩ := compI_spec hl
  unfold distI; rw [List.length_take, a1]; omega
theorem revI_length {l : List Pt} (hl : 0 < l.length) : (revI l).length = (compI l).2 := by
  obtain ⟨a1, a2, a3, a4⟩ := compI_spec hl
  unfold revI; rw [List.length_take, rv_length, a1]; omega
theorem chain_le {l : List Pt} : ∀ (ord st : List Nat), (ord.foldl (fun st i => i :: pop l i st) st).length ≤ st.length + ord.length := by
  intro ord
  induction ord with
  | nil => intro st; simp
  | cons o os ih =>
    intro st
    simp only [List.foldl_cons]
    have h1 := ih (o :: pop l o st)
    have h2 := pop_length (l := l) (i := o) st
    simp only [List.length_cons] at h1 ⊢
    omega
theorem all_ix (xs : List Nat) : (ix xs).all AV.elem = true := by
  rw [List.all_eq_true]
  intro x hx
  obtain ⟨n, -, rfl⟩ := List.mem_map.1 hx
  rfl
theorem c51 (l : List Pt) (hl : 0 < l.length) (hn : l.length < 20) (hok : l.all okP = true) :
    ∃ (zs : List Nat), zs.take (hullI l).length = hullI l ∧ (hullI l).length ≤ zs.length ∧ CallsF Try.prog 51 [pts l] [] (.sl 0 0 0 (hullI l).length) [.row false 0 false 1 (ix zs)] := by
  obtain ⟨a1, a2, a3, a4⟩ := compI_spec hl
  have hchk : chk l = 0 := by unfold chk; rw [if_neg (by omega), if_pos hok]
  have hd := distI_length hl
  have hr := revI_length hl
  have hdm : ∀ x ∈ distI l, x < l.length := fun x hx => a2 x (List.mem_of_mem_take hx)
  have hrm : ∀ x ∈ revI l, x < l.length := fun x hx => rv_mem _ _ _ (by omega) a2 x (List.mem_of_mem_take hx)
  have hc84 := c84 l 0 (orderI l) (orderI_mem l) (by rw [orderI_length]; omega)
  rw [orderI_length] at hc84
  have key : ∀ (zs : List Nat) (b g : Nat), zs.take (hullI l).length = hullI l → (hullI l).length ≤ zs.length → (CWx Try.prog 0 true cf51.code (argsAl 0 [pts l]) [] (finK cf51.rvs 0 (.sl 0 0 0 (hullI l).length) [.row false 0 false 1 (ix zs)])) →
      ∃ (zs : List Nat), zs.take (hullI l).length = hullI l ∧ (hullI l).length ≤ zs.length ∧ CallsF Try.prog 51 [pts l] [] (.sl 0 0 0 (hullI l).length) [.row false 0 false 1 (ix zs)] := fun zs b g h1 h2 h3 => ⟨zs, h1, h2, callsF_cwx hm hf51 (by simp [cf51]) h3⟩
  by_cases h3 : ((compI l).2 : Int) < 3
  · have hh : hullI l = distI l := by unfold hullI; rw [if_pos (by omega)]
    refine key (compI l).1 0 0 (by rw [hh, hd]; rfl) (by rw [hh, hd, a1]; exact a3) ?_
    rw [hh, hd]
    simp only [cf51, argsAl]
    refine CWx.r fun K hK => ?_
    simp (maxSteps := 4000000) only [amC, amX, dr3, dr4, AV.elem, AV.cells, AV.one, loadAV, faddrAV, binAV, storeAV, AV.putCells, AV.ref, if_true, if_false, Nat.reduceEqDiff, Nat.reduceAdd, Nat.reduceLT, Nat.reduceLeDiff, reduceCtorEq, ↓reduceIte, pickAV, lenAV, intAV, slcA, slcAV, iaddrAV, extAV, fldAV, eqCell, contAV, appendAV, maxI, minI, Option.some.injEq, catT, AV.elem, AV.cells, AV.one, pts, List.all_cons, List.all_nil]
    refine hK _ _ _ nofun ?_
    clear hK K
    refine CWx.r fun K hK => ?_
    simp (maxSteps := 4000000) only [amC, amX, dr3, dr4, AV.elem, AV.cells, AV.one, loadAV, faddrAV, binAV, storeAV, AV.putCells, AV.ref, if_true, if_false, Nat.reduceEqDiff, Nat.reduceAdd, Nat.reduceLT, Nat.reduceLeDiff, reduceCtorEq, ↓reduceIte, pickAV, lenAV, intAV, slcA, slcAV, iaddrAV, extAV, fldAV, eqCell, contAV, appendAV, maxI, minI, Option.some.injEq, catT, AV.cells]
    refine RCx.viewR (fid := 83) (caps := []) rfl rfl (viewArgs_flat1 (flat_pts l 2)) (c83 l hn hchk) (by simp [AV.clean, cleanL, Blk.clean, cleanL_ix]) ?_
    simp (maxSteps := 4000000) only [amC, amX, dr3, dr4, AV.elem, AV.cells, AV.one, loadAV, faddrAV, binAV, storeAV, AV.putCells, AV.ref, if_true, if_false, Nat.reduceEqDiff, Nat.reduceAdd, Nat.reduceLT, Nat.reduceLeDiff, reduceCtorEq, ↓reduceIte, pickAV, lenAV, intAV, slcA, slcAV, iaddrAV, extAV, fldAV, eqCell, contAV, appendAV, maxI, minI, Option.some.injEq, catT, AV.ren, renL, Blk.ren, renL_id (ix (orderI l)) (ltL_ix _ _)]
    refine hK _ _ _ nofun ?_
    clear hK K
    refine CWx.seq ?_
    refine CWx.r fun K hK => ?_
    simp (maxSteps := 4000000) only [amC, amX, dr3, dr4, AV.elem, AV.cells, AV.one, loadAV, faddrAV, binAV, storeAV, AV.putCells, AV.ref, if_true, if_false, Nat.reduceEqDiff, Nat.reduceAdd, Nat.reduceLT, Nat.reduceLeDiff, reduceCtorEq, ↓reduceIte, pickAV, lenAV, intAV, slcA, slcAV, iaddrAV, extAV, fldAV, eqCell, contAV, appendAV, maxI, minI, Option.some.injEq, catT, show ((0 : Int) != 0) = false from rfl]
    refine hK _ _ _ nofun ?_
    clear hK K
    refine CWx.condF rfl (CWx.skip (CWx.go ?_))
    refine CWx.r fun K hK => ?_
    simp (maxSteps := 4000000) only [amC, amX, dr3, dr4, AV.elem, AV.cells, AV.one, loadAV, faddrAV, binAV, storeAV, AV.putCells, AV.ref, if_true, if_false, Nat.reduceEqDiff, Nat.reduceAdd, Nat.reduceLT, Nat.reduceLeDiff, reduceCtorEq, ↓reduceIte, pickAV, lenAV, intAV, slcA, slcAV, iaddrAV, extAV, fldAV, eqCell, contAV, appendAV, maxI, minI, Option.some.injEq, catT]
    refine RCx.oneR (fid := 84) (caps := []) rfl rfl (b := 2) (X := [.sl 2 0 0 l.length, .clo 85 [.ptr 0 0 0 0]]) (args := [.sl 0 0 0 l.length, .clo 85 [.rp true [pts l]]]) (.cons (.row 0 0 l.length) (.cons (.view (viewG_clo rfl (flat_pts l 2) rfl) rfl) .nil)) hc84 (by simp) rfl (by simp only [Blk.lt, ltL_ix]) rfl (by simp only [Blk.lt, ltL_ix]) (by simp only [Blk.clean, cleanL_ix]) (r' := .sl 2 0 0 (compI l).2) (by simp [AV.ren, sigma, compI]) ?_
    simp (maxSteps := 4000000) only [amC, amX, dr3, dr4, AV.elem, AV.cells, AV.one, loadAV, faddrAV, binAV, storeAV, AV.putCells, AV.ref, if_true, if_false, Nat.reduceEqDiff, Nat.reduceAdd, Nat.reduceLT, Nat.reduceLeDiff, reduceCtorEq, ↓reduceIte, pickAV, lenAV, intAV, slcA, slcAV, iaddrAV, extAV, fldAV, eqCell, contAV, appendAV, maxI, minI, Option.some.injEq, catT]
    refine hK _ _ _ nofun ?_
    clear hK K
    refine CWx.seq ?_
    refine CWx.r fun K hK => ?_
    simp (maxSteps := 4000000) only [amC, amX, dr3, dr4, AV.elem, AV.cells, AV.one, loadAV, faddrAV, binAV, storeAV, AV.putCells, AV.ref, if_true, if_false, Nat.reduceEqDiff, Nat.reduceAdd, Nat.reduceLT, Nat.reduceLeDiff, reduceCtorEq, ↓reduceIte, pickAV, lenAV, intAV, slcA, slcAV, iaddrAV, extAV, fldAV, eqCell, contAV, appendAV, maxI, minI, Option.some.injEq, catT, h3]
    refine hK _ _ _ nofun ?_
    clear hK K
    refine CWx.condT rfl ?_
    refine CWx.r fun K hK => ?_
    simp (maxSteps := 4000000) only [amC, amX, dr3, dr4, AV.elem, AV.cells, AV.one, loadAV, faddrAV, binAV, storeAV, AV.putCells, AV.ref, if_true, if_false, Nat.reduceEqDiff, Nat.reduceAdd, Nat.reduceLT, Nat.reduceLeDiff, reduceCtorEq, ↓reduceIte, pickAV, lenAV, intAV, slcA, slcAV, iaddrAV, extAV, fldAV, eqCell, contAV, appendAV, maxI, minI, Option.some.injEq, catT]
    refine hK _ _ _ nofun ?_
    clear hK K
    refine CWx.ret fun al hal => finK_ext hal (finK_new (.inr rfl) (xs := [.sl 2 0 0 (compI l).2]) (b := 2) (g := 0) (nil := false) (ys := ix (compI l).1) (by simp [resRV, Am.get]) rfl (allRL_ix _ _ _) ?_ ?_)
    · simp [tupAV, AV.allR, sigP]
    · simp [tupAV, AV.mapR, sigF]
  · have hm3 : 3 ≤ (compI l).2 := by omega
    obtain ⟨C, hC⟩ : ∃ C, C = (chainS l (distI l)).reverse := ⟨_, rfl⟩
    obtain ⟨R, hR⟩ : ∃ R, R = (chainS l (revI l)).reverse := ⟨_, rfl⟩
    obtain ⟨n1, hn1⟩ : ∃ n1, n1 = (chainS l (distI l)).length - 1 := ⟨_, rfl⟩
    obtain ⟨n2, hn2⟩ : ∃ n2, n2 = (chainS l (revI l)).length - 1 := ⟨_, rfl⟩
    have hCl : C.length = (chainS l (distI l)).length := by rw [hC]; simp
    have hRl : R.length = (chainS l (revI l)).length := by rw [hR]; simp
    have hne1 : distI l ≠ [] := by intro h; rw [h] at hd; simp at hd; omega
    have hne2 : revI l ≠ [] := by intro h; rw [h] at hr; simp at hr; omega
    have hp1 := chain_pos (l := l) (distI l) [] hne1
    have hp2 := chain_pos (l := l) (revI l) [] hne2
    have hb1 : (chainS l (distI l)).length ≤ (compI l).2 := by have := chain_le (l := l) (distI l) []; rw [hd] at this; simpa [chainS] using this
    have hb2 : (chainS l (revI l)).length ≤ (compI l).2 := by have := chain_le (l := l) (revI l) []; rw [hr] at this; simpa [chainS] using this
    have k1 := c86 l hok (distI l) hdm hne1 (by omega)
    have k2 := c86 l hok (revI l) hrm hne2 (by omega)
    rw [← hC, ← hn1] at k1
    rw [← hR, ← hn2] at k2
    have hn1C : n1 ≤ C.length := by omega
    have hn2R : n2 ≤ R.length := by omega
    have hh : hullI l = C.take n1 ++ R.take n2 := by unfold hullI; rw [if_neg (by omega), ← hC, ← hR, ← hn1, ← hn2]
    have hl1 : (C.take n1).length = n1 := by rw [List.length_take]; omega
    have hl2 : (R.take n2).length = n2 := by rw [List.length_take]; omega
    have hlen : (hullI l).length = n1 + n2 := by rw [hh, List.length_append, hl1, hl2]
    refine key (hullI l) 0 0 (List.take_of_length_le (Nat.le_refl _)) (Nat.le_refl _) ?_
    simp only [cf51, argsAl]
    refine CWx.r fun K hK => ?_
    simp (maxSteps := 4000000) only [amC, amX, dr3, dr4, AV.elem, AV.cells, AV.one, loadAV, faddrAV, binAV, storeAV, AV.putCells, AV.ref, if_true, if_false, Nat.reduceEqDiff, Nat.reduceAdd, Nat.reduceLT, Nat.reduceLeDiff, reduceCtorEq, ↓reduceIte, pickAV, lenAV, intAV, slcA, slcAV, iaddrAV, extAV, fldAV, eqCell, contAV, appendAV, maxI, minI, Option.some.injEq, catT, AV.elem, AV.cells, AV.one, pts, List.all_cons, List.all_nil]
    refine hK _ _ _ nofun ?_
    clear hK K
    refine CWx.r fun K hK => ?_
    simp (maxSteps := 4000000) only [amC, amX, dr3, dr4, AV.elem, AV.cells, AV.one, loadAV, faddrAV, binAV, storeAV, AV.putCells, AV.ref, if_true, if_false, Nat.reduceEqDiff, Nat.reduceAdd, Nat.reduceLT, Nat.reduceLeDiff, reduceCtorEq, ↓reduceIte, pickAV, lenAV, intAV, slcA, slcAV, iaddrAV, extAV, fldAV, eqCell, contAV, appendAV, maxI, minI, Option.some.injEq, catT, AV.cells]
    refine RCx.viewR (fid := 83) (caps := []) rfl rfl (viewArgs_flat1 (flat_pts l 2)) (c83 l hn hchk) (by simp [AV.clean, cleanL, Blk.clean, cleanL_ix]) ?_
    simp (maxSteps := 4000000) only [amC, amX, dr3, dr4, AV.elem, AV.cells, AV.one, loadAV, faddrAV, binAV, storeAV, AV.putCells, AV.ref, if_true, if_false, Nat.reduceEqDiff, Nat.reduceAdd, Nat.reduceLT, Nat.reduceLeDiff, reduceCtorEq, ↓reduceIte, pickAV, lenAV, intAV, slcA, slcAV, iaddrAV, extAV, fldAV, eqCell, contAV, appendAV, maxI, minI, Option.some.injEq, catT, AV.ren, renL, Blk.ren, renL_id (ix (orderI l)) (ltL_ix _ _)]
    refine hK _ _ _ nofun ?_
    clear hK K
    refine CWx.seq ?_
    refine CWx.r fun K hK => ?_
    simp (maxSteps := 4000000) only [amC, amX, dr3, dr4, AV.elem, AV.cells, AV.one, loadAV, faddrAV, binAV, storeAV, AV.putCells, AV.ref, if_true, if_false, Nat.reduceEqDiff, Nat.reduceAdd, Nat.reduceLT, Nat.reduceLeDiff, reduceCtorEq, ↓reduceIte, pickAV, lenAV, intAV, slcA, slcAV, iaddrAV, extAV, fldAV, eqCell, contAV, appendAV, maxI, minI, Option.some.injEq, catT, show ((0 : Int) != 0) = false from rfl]
    refine hK _ _ _ nofun ?_
    clear hK K
    refine CWx.condF rfl (CWx.skip (CWx.go ?_))
    refine CWx.r fun K hK => ?_
    simp (maxSteps := 4000000) only [amC, amX, dr3, dr4, AV.elem, AV.cells, AV.one, loadAV, faddrAV, binAV, storeAV, AV.putCells, AV.ref, if_true, if_false, Nat.reduceEqDiff, Nat.reduceAdd, Nat.reduceLT, Nat.reduceLeDiff, reduceCtorEq, ↓reduceIte, pickAV, lenAV, intAV, slcA, slcAV, iaddrAV, extAV, fldAV, eqCell, contAV, appendAV, maxI, minI, Option.some.injEq, catT]
    refine RCx.oneR (fid := 84) (caps := []) rfl rfl (b := 2) (X := [.sl 2 0 0 l.length, .clo 85 [.ptr 0 0 0 0]]) (args := [.sl 0 0 0 l.length, .clo 85 [.rp true [pts l]]]) (.cons (.row 0 0 l.length) (.cons (.view (viewG_clo rfl (flat_pts l 2) rfl) rfl) .nil)) hc84 (by simp) rfl (by simp only [Blk.lt, ltL_ix]) rfl (by simp only [Blk.lt, ltL_ix]) (by simp only [Blk.clean, cleanL_ix]) (r' := .sl 2 0 0 (compI l).2) (by simp [AV.ren, sigma, compI]) ?_
    simp (maxSteps := 4000000) only [amC, amX, dr3, dr4, AV.elem, AV.cells, AV.one, loadAV, faddrAV, binAV, storeAV, AV.putCells, AV.ref, if_true, if_false, Nat.reduceEqDiff, Nat.reduceAdd, Nat.reduceLT, Nat.reduceLeDiff, reduceCtorEq, ↓reduceIte, pickAV, lenAV, intAV, slcA, slcAV, iaddrAV, extAV, fldAV, eqCell, contAV, appendAV, maxI, minI, Option.some.injEq, catT]
    refine hK _ _ _ nofun ?_
    clear hK K
    refine CWx.seq ?_
    refine CWx.r fun K hK => ?_
    simp (maxSteps := 4000000) only [amC, amX, dr3, dr4, AV.elem, AV.cells, AV.one, loadAV, faddrAV, binAV, storeAV, AV.putCells, AV.ref, if_true, if_false, Nat.reduceEqDiff, Nat.reduceAdd, Nat.reduceLT, Nat.reduceLeDiff, reduceCtorEq, ↓reduceIte, pickAV, lenAV, intAV, slcA, slcAV, iaddrAV, extAV, fldAV, eqCell, contAV, appendAV, maxI, minI, Option.some.injEq, catT, h3]
    refine hK _ _ _ nofun ?_
    clear hK K
    refine CWx.condF rfl (CWx.skip (CWx.go ?_))
    refine CWx.r fun K hK => ?_
    simp (maxSteps := 4000000) only [amC, amX, dr3, dr4, AV.elem, AV.cells, AV.one, loadAV, faddrAV, binAV, storeAV, AV.putCells, AV.ref, if_true, if_false, Nat.reduceEqDiff, Nat.reduceAdd, Nat.reduceLT, Nat.reduceLeDiff, reduceCtorEq, ↓reduceIte, pickAV, lenAV, intAV, slcA, slcAV, iaddrAV, extAV, fldAV, eqCell, contAV, appendAV, maxI, minI, Option.some.injEq, catT]
    refine hK _ _ _ nofun ?_
    clear hK K
    refine CWx.r fun K hK => ?_
    simp (maxSteps := 4000000) only [amC, amX, dr3, dr4, AV.elem, AV.cells, AV.one, loadAV, faddrAV, binAV, storeAV, AV.putCells, AV.ref, if_true, if_false, Nat.reduceEqDiff, Nat.reduceAdd, Nat.reduceLT, Nat.reduceLeDiff, reduceCtorEq, ↓reduceIte, pickAV, lenAV, intAV, slcA, slcAV, iaddrAV, extAV, fldAV, eqCell, contAV, appendAV, maxI, minI, Option.some.injEq, catT]
    refine RCx.viewR (fid := 86) (caps := [.ptr 0 0 0 0]) rfl rfl (viewArgs2 (viewG_ix (b := 2) (g := 0) (i := 0) (k := (compI l).2) (nil := false) (frz := false) (xs := (compI l).1) rfl (by omega)) (viewG_ptr (b := 0) (g := 0) (sz := 1) (nil := false) (frz := false) (y := pts l) rfl (flat_pts l 2) rfl)) k1 (by simp [AV.clean, Blk.clean, cleanL_ix]) ?_
    simp (maxSteps := 4000000) only [amC, amX, dr3, dr4, AV.elem, AV.cells, AV.one, loadAV, faddrAV, binAV, storeAV, AV.putCells, AV.ref, if_true, if_false, Nat.reduceEqDiff, Nat.reduceAdd, Nat.reduceLT, Nat.reduceLeDiff, reduceCtorEq, ↓reduceIte, pickAV, lenAV, intAV, slcA, slcAV, iaddrAV, extAV, fldAV, eqCell, contAV, appendAV, maxI, minI, Option.some.injEq, catT, AV.ren, renL, Blk.ren, renL_id (ix C) (ltL_ix _ _)]
    refine hK _ _ _ nofun ?_
    clear hK K
    refine CWx.r fun K hK => ?_
    simp (maxSteps := 4000000) only [amC, amX, dr3, dr4, AV.elem, AV.cells, AV.one, loadAV, faddrAV, binAV, storeAV, AV.putCells, AV.ref, if_true, if_false, Nat.reduceEqDiff, Nat.reduceAdd, Nat.reduceLT, Nat.reduceLeDiff, reduceCtorEq, ↓reduceIte, pickAV, lenAV, intAV, slcA, slcAV, iaddrAV, extAV, fldAV, eqCell, contAV, appendAV, maxI, minI, Option.some.injEq, catT]
    refine RCx.one (fid := 87) (caps := []) rfl rfl (b := 2) (X := [.sl 2 0 0 (compI l).2]) (args := [.sl 0 0 0 (compI l).2]) (.cons (.row 0 0 (compI l).2) .nil) (c87' 0 (compI l).2 (compI l).1 (by omega) (by omega)) (by simp) rfl (by simp only [Blk.lt, ltL_ix]) rfl (by simp only [Blk.lt, ltL_ix]) (by simp only [Blk.clean, cleanL_ix]) ?_
    simp (maxSteps := 4000000) only [amC, amX, dr3, dr4, AV.elem, AV.cells, AV.one, loadAV, faddrAV, binAV, storeAV, AV.putCells, AV.ref, if_true, if_false, Nat.reduceEqDiff, Nat.reduceAdd, Nat.reduceLT, Nat.reduceLeDiff, reduceCtorEq, ↓reduceIte, pickAV, lenAV, intAV, slcA, slcAV, iaddrAV, extAV, fldAV, eqCell, contAV, appendAV, maxI, minI, Option.some.injEq, catT]
    refine hK _ _ _ nofun ?_
    clear hK K
    refine CWx.r fun K hK => ?_
    simp (maxSteps := 4000000) only [amC, amX, dr3, dr4, AV.elem, AV.cells, AV.one, loadAV, faddrAV, binAV, storeAV, AV.putCells, AV.ref, if_true, if_false, Nat.reduceEqDiff, Nat.reduceAdd, Nat.reduceLT, Nat.reduceLeDiff, reduceCtorEq, ↓reduceIte, pickAV, lenAV, intAV, slcA, slcAV, iaddrAV, extAV, fldAV, eqCell, contAV, appendAV, maxI, minI, Option.some.injEq, catT]
    refine RCx.viewR (fid := 86) (caps := [.ptr 0 0 0 0]) rfl rfl (viewArgs2 (viewG_ix (b := 2) (g := 0) (i := 0) (k := (compI l).2) (nil := false) (frz := false) (xs := rv (compI l).2 (compI l).2 0 (compI l).1) rfl (by rw [rv_length]; omega)) (viewG_ptr (b := 0) (g := 0) (sz := 1) (nil := false) (frz := false) (y := pts l) rfl (flat_pts l 2) rfl)) k2 (by simp [AV.clean, Blk.clean, cleanL_ix]) ?_
    have hbd : (n1 + n2) * 8 ≤ appBound := by unfold appBound; omega
    simp (maxSteps := 4000000) only [amC, amX, dr3, dr4, AV.elem, AV.cells, AV.one, loadAV, faddrAV, binAV, storeAV, AV.putCells, AV.ref, if_true, if_false, Nat.reduceEqDiff, Nat.reduceAdd, Nat.reduceLT, Nat.reduceLeDiff, reduceCtorEq, ↓reduceIte, pickAV, lenAV, intAV, slcA, slcAV, iaddrAV, extAV, fldAV, eqCell, contAV, appendAV, maxI, minI, Option.some.injEq, catT, AV.ren, renL, Blk.ren, renL_id (ix R) (ltL_ix _ _), ix_length, hn2R, ix_take, all_ix, hl2, hn1C, hbd, true_or, Bool.false_and]
    refine hK _ _ _ nofun ?_
    clear hK K
    refine CWx.ret fun al hal => finK_ext hal (finK_new (.inr rfl) (xs := [.sl 3 1 0 (n1 + n2)]) (b := 3) (g := 1) (nil := false) (ys := ix (hullI l)) (by simp [resRV, Am.get]) ?_ (allRL_ix _ _ _) ?_ ?_)
    · simp only [hget, List.getElem?_cons_succ, List.getElem?_cons_zero, Option.getD_some, hh, ix_append]
    · simp [tupAV, AV.allR, sigP]
    · simp [tupAV, AV.mapR, sigF, hlen]
end Go.Hull
end
