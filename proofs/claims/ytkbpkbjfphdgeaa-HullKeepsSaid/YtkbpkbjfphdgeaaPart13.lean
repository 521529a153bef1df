/- Locate: walk.
   Conditions: a few points, if they're in range. -/
import Derived.Test.YtkbpkbjfphdgeaaPart12
section
set_option linter.unusedSimpArgs false
set_option linter.unusedVariables false
set_option maxHeartbeats 4000000
namespace Go.Hull
open Go Go.Am Go.Proofs

/-- On which side of its i-th side a point is. -/
def sideI (l : List Pt) (p : Pt) (i : Nat) : Int := left (P l ((hullI l).getD i 0)) (P l ((hullI l).getD ((i + 1) % (hullI l).length) 0)) p
def outI (l : List Pt) (p : Pt) (i : Nat) : Int := if (List.range i).any (fun j => decide (sideI l p j = 0)) = true then 0 else 1
def onB (l : List Pt) (p : Pt) : Bool := decide (left (P l ((hullI l).getD 0 0)) (P l ((hullI l).getD ((hullI l).length - 1) 0)) p = 0) && decide (dot (sub (P l ((hullI l).getD 0 0)) p) (sub (P l ((hullI l).getD ((hullI l).length - 1) 0)) p) ≤ 0)
def locI (l : List Pt) (p : Pt) : Int :=
  if (hullI l).length ≤ 2 then (if onB l p = true then 0 else -1)
  else if (List.range (hullI l).length).any (fun j => decide (sideI l p j < 0)) = true then -1 else outI l p (hullI l).length
def locR (l : List Pt) (p : Pt) : Int × Int := if chk l ≠ 0 then (0, chk l) else if okP p = false then (0, 2) else if l.length = 0 then (0, 13) else (locI l p, 0)
theorem outI_succ (l : List Pt) (p : Pt) (i : Nat) : outI l p (i + 1) = if sideI l p i = 0 then 0 else outI l p i := by
  unfold outI
  rw [List.range_succ, List.any_append]
  by_cases h : sideI l p i = 0
  · simp [h]
  · simp [h]
theorem c15 (l : List Pt) (p : Pt) (hn : l.length < 4611686018427387904) (h20 : chk l = 0 → l.length < 20) :
    CallsF Try.prog 15 [pts l, pt p] [] (.tup [.int .i64 (locR l p).1, .int .i64 (locR l p).2]) [] := by
  have k50 := c50 l hn
  have k54 := c54 p
  refine callsF_cwx hm hf15 (by simp [cf15]) ?_
  simp only [cf15, argsAl]
  unfold pt
  refine CWx.r fun K hK => ?_
  simp (maxSteps := 4000000) only [amC, amX, evsA, evpA, elemsA, elemsP, sizedA, optA, refA, consO, Am.get, AV.elem, AV.cells, AV.one, hsetL, hset, hget, loadAV, rowAt?, loadCells', faddrAV, binAV, fillA, storeAV, AV.putCells, AV.ref, List.foldl, List.all, List.map, List.set, List.take, List.drop, Option.getD, Option.map, if_true, if_false, Nat.reduceEqDiff, Nat.reduceAdd, Nat.reduceLT, Nat.reduceLeDiff, reduceCtorEq, ↓reduceIte, pickAV, lenAV, intAV, slcA, slcAV, iaddrAV, extAV, fldAV, eqCells, eqCell, contAV, appendAV, foldAV, maxI, minI, Option.some.injEq, catT, AV.cells, AV.elem, AV.one, List.all_cons, List.all_nil]
  refine hK _ _ _ nofun ?_
  clear hK K
  refine CWx.seq ?_
  refine CWx.r fun K hK => ?_
  simp (maxSteps := 4000000) only [amC, amX, evsA, evpA, elemsA, elemsP, sizedA, optA, refA, consO, Am.get, AV.elem, AV.cells, AV.one, hsetL, hset, hget, loadAV, rowAt?, loadCells', faddrAV, binAV, fillA, storeAV, AV.putCells, AV.ref, List.foldl, List.all, List.map, List.set, List.take, List.drop, Option.getD, Option.map, if_true, if_false, Nat.reduceEqDiff, Nat.reduceAdd, Nat.reduceLT, Nat.reduceLeDiff, reduceCtorEq, ↓reduceIte, pickAV, lenAV, intAV, slcA, slcAV, iaddrAV, extAV, fldAV, eqCells, eqCell, contAV, appendAV, foldAV, maxI, minI, Option.some.injEq, catT]
  refine RCx.view (fid := 50) (caps := []) rfl rfl (viewArgs_flat1 (flat_pts l 2)) k50 rfl ?_
  by_cases hc : chk l = 0
  · rw [hc]
    simp (maxSteps := 4000000) only [amC, amX, evsA, evpA, elemsA, elemsP, sizedA, optA, refA, consO, Am.get, AV.elem, AV.cells, AV.one, hsetL, hset, hget, loadAV, rowAt?, loadCells', faddrAV, binAV, fillA, storeAV, AV.putCells, AV.ref, List.foldl, List.all, List.map, List.set, List.take, List.drop, Option.getD, Option.map, if_true, if_false, Nat.reduceEqDiff, Nat.reduceAdd, Nat.reduceLT, Nat.reduceLeDiff, reduceCtorEq, ↓reduceIte, pickAV, lenAV, intAV, slcA, slcAV, iaddrAV, extAV, fldAV, eqCells, eqCell, contAV, appendAV, foldAV, maxI, minI, Option.some.injEq, catT]
    refine hK _ _ _ nofun ?_
    clear hK K
    refine CWx.r fun K hK => ?_
    simp (maxSteps := 4000000) only [amC, amX, evsA, evpA, elemsA, elemsP, sizedA, optA, refA, consO, Am.get, AV.elem, AV.cells, AV.one, hsetL, hset, hget, loadAV, rowAt?, loadCells', faddrAV, binAV, fillA, storeAV, AV.putCells, AV.ref, List.foldl, List.all, List.map, List.set, List.take, List.drop, Option.getD, Option.map, if_true, if_false, Nat.reduceEqDiff, Nat.reduceAdd, Nat.reduceLT, Nat.reduceLeDiff, reduceCtorEq, ↓reduceIte, pickAV, lenAV, intAV, slcA, slcAV, iaddrAV, extAV, fldAV, eqCells, eqCell, contAV, appendAV, foldAV, maxI, minI, Option.some.injEq, catT, show ((0 : Int) != 0) = false from rfl]
    refine hK _ _ _ nofun ?_
    clear hK K
    refine CWx.condF rfl (CWx.skip (CWx.go ?_))
    refine CWx.seq ?_
    refine CWx.block ?_
    refine CWx.r fun K hK => ?_
    simp (maxSteps := 4000000) only [amC, amX, evsA, evpA, elemsA, elemsP, sizedA, optA, refA, consO, Am.get, AV.elem, AV.cells, AV.one, hsetL, hset, hget, loadAV, rowAt?, loadCells', faddrAV, binAV, fillA, storeAV, AV.putCells, AV.ref, List.foldl, List.all, List.map, List.set, List.take, List.drop, Option.getD, Option.map, if_true, if_false, Nat.reduceEqDiff, Nat.reduceAdd, Nat.reduceLT, Nat.reduceLeDiff, reduceCtorEq, ↓reduceIte, pickAV, lenAV, intAV, slcA, slcAV, iaddrAV, extAV, fldAV, eqCells, eqCell, contAV, appendAV, foldAV, maxI, minI, Option.some.injEq, catT, AV.cells]
    refine RCx.view (fid := 54) (caps := []) rfl rfl rfl k54 rfl ?_
    by_cases hp : okP p = true
    · simp (maxSteps := 4000000) only [amC, amX, evsA, evpA, elemsA, elemsP, sizedA, optA, refA, consO, Am.get, AV.elem, AV.cells, AV.one, hsetL, hset, hget, loadAV, rowAt?, loadCells', faddrAV, binAV, fillA, storeAV, AV.putCells, AV.ref, List.foldl, List.all, List.map, List.set, List.take, List.drop, Option.getD, Option.map, if_true, if_false, Nat.reduceEqDiff, Nat.reduceAdd, Nat.reduceLT, Nat.reduceLeDiff, reduceCtorEq, ↓reduceIte, pickAV, lenAV, intAV, slcA, slcAV, iaddrAV, extAV, fldAV, eqCells, eqCell, contAV, appendAV, foldAV, maxI, minI, Option.some.injEq, catT, hp]
      refine hK _ _ _ nofun ?_
      clear hK K
      refine CWx.condF rfl ?_
      by_cases hl0 : l.length = 0
      · have hl0' : ((l.length : Int) == 0) = true := by rw [hl0]; rfl
        refine CWx.r fun K hK => ?_
        simp (maxSteps := 4000000) only [amC, amX, evsA, evpA, elemsA, elemsP, sizedA, optA, refA, consO, Am.get, AV.elem, AV.cells, AV.one, hsetL, hset, hget, loadAV, rowAt?, loadCells', faddrAV, binAV, fillA, storeAV, AV.putCells, AV.ref, List.foldl, List.all, List.map, List.set, List.take, List.drop, Option.getD, Option.map, if_true, if_false, Nat.reduceEqDiff, Nat.reduceAdd, Nat.reduceLT, Nat.reduceLeDiff, reduceCtorEq, ↓reduceIte, pickAV, lenAV, intAV, slcA, slcAV, iaddrAV, extAV, fldAV, eqCells, eqCell, contAV, appendAV, foldAV, maxI, minI, Option.some.injEq, catT, pts, List.length_map, hl0']
        refine hK _ _ _ nofun ?_
        clear hK K
        refine CWx.condT rfl ?_
        refine CWx.r fun K hK => ?_
        simp (maxSteps := 4000000) only [amC, amX, evsA, evpA, elemsA, elemsP, sizedA, optA, refA, consO, Am.get, AV.elem, AV.cells, AV.one, hsetL, hset, hget, loadAV, rowAt?, loadCells', faddrAV, binAV, fillA, storeAV, AV.putCells, AV.ref, List.foldl, List.all, List.map, List.set, List.take, List.drop, Option.getD, Option.map, if_true, if_false, Nat.reduceEqDiff, Nat.reduceAdd, Nat.reduceLT, Nat.reduceLeDiff, reduceCtorEq, ↓reduceIte, pickAV, lenAV, intAV, slcA, slcAV, iaddrAV, extAV, fldAV, eqCells, eqCell, contAV, appendAV, foldAV, maxI, minI, Option.some.injEq, catT]
        refine hK _ _ _ nofun ?_
        clear hK K
        have hr : locR l p = (0, 13) := by unfold locR; rw [if_neg (by simp [hc]), if_neg (by simp [hp]), if_pos hl0]
        rw [hr]
        exact CWx.ret fun al hal => finK_ext hal (finK_pure (.inr rfl) (xs := [.int .i64 0, .int .i64 13]) (by simp [resRV, Am.get]) rfl rfl)
      · have hl0' : ((l.length : Int) == 0) = false := beq_eq_false_iff_ne.2 (by omega)
        have hok : l.all okP = true := by
          unfold chk at hc
          split at hc
          · cases hc
          · by_cases h : l.all okP = true
            · exact h
            · rw [if_neg h] at hc; cases hc
        have hr : locR l p = (locI l p, 0) := by unfold locR; rw [if_neg (by simp [hc]), if_neg (by simp [hp]), if_neg hl0]
        rw [hr]
        have T := hullT l (by omega)
        obtain ⟨zs, z1, z2, z3⟩ := c51 l (by omega) (h20 hc) hok
        obtain ⟨v, hv⟩ : ∃ v, v = hullI l := ⟨_, rfl⟩
        obtain ⟨n, hnv⟩ : ∃ n, n = v.length := ⟨_, rfl⟩
        rw [← hv] at T z1 z2 z3
        rw [← hnv] at z1 z2 z3
        have n0 : 0 < n := by rw [hnv]; exact T.ne
        have n8 : n ≤ l.length := by rw [hnv]; exact T.le
        have l20 := h20 hc
        have zv : ∀ k, k < n → zs.getD k 0 = v.getD k 0 := fun k hk => take_getD' z1 hk
        have vm : ∀ k, k < n → v.getD k 0 < l.length := fun k hk => getD_lt T.mem (by omega)
        refine CWx.r fun K hK => ?_
        simp (maxSteps := 4000000) only [amC, amX, evsA, evpA, elemsA, elemsP, sizedA, optA, refA, consO, Am.get, AV.elem, AV.cells, AV.one, hsetL, hset, hget, loadAV, rowAt?, loadCells', faddrAV, binAV, fillA, storeAV, AV.putCells, AV.ref, List.foldl, List.all, List.map, List.set, List.take, List.drop, Option.getD, Option.map, if_true, if_false, Nat.reduceEqDiff, Nat.reduceAdd, Nat.reduceLT, Nat.reduceLeDiff, reduceCtorEq, ↓reduceIte, pickAV, lenAV, intAV, slcA, slcAV, iaddrAV, extAV, fldAV, eqCells, eqCell, contAV, appendAV, foldAV, maxI, minI, Option.some.injEq, catT, pts, List.length_map, hl0']
        refine hK _ _ _ nofun ?_
        clear hK K
        refine CWx.condF rfl (CWx.skip (CWx.go ?_))
        refine CWx.r fun K hK => ?_
        simp (maxSteps := 4000000) only [amC, amX, evsA, evpA, elemsA, elemsP, sizedA, optA, refA, consO, Am.get, AV.elem, AV.cells, AV.one, hsetL, hset, hget, loadAV, rowAt?, loadCells', faddrAV, binAV, fillA, storeAV, AV.putCells, AV.ref, List.foldl, List.all, List.map, List.set, List.take, List.drop, Option.getD, Option.map, if_true, if_false, Nat.reduceEqDiff, Nat.reduceAdd, Nat.reduceLT, Nat.reduceLeDiff, reduceCtorEq, ↓reduceIte, pickAV, lenAV, intAV, slcA, slcAV, iaddrAV, extAV, fldAV, eqCells, eqCell, contAV, appendAV, foldAV, maxI, minI, Option.some.injEq, catT]
        refine RCx.viewR (fid := 51) (caps := []) rfl rfl (viewArgs_flat1 (flat_pts l 2)) z3 (by simp [AV.clean, cleanL, Blk.clean, cleanL_ix]) ?_
        simp (maxSteps := 4000000) only [amC, amX, evsA, evpA, elemsA, elemsP, sizedA, optA, refA, consO, Am.get, AV.elem, AV.cells, AV.one, hsetL, hset, hget, loadAV, rowAt?, loadCells', faddrAV, binAV, fillA, storeAV, AV.putCells, AV.ref, List.foldl, List.all, List.map, List.set, List.take, List.drop, Option.getD, Option.map, if_true, if_false, Nat.reduceEqDiff, Nat.reduceAdd, Nat.reduceLT, Nat.reduceLeDiff, reduceCtorEq, ↓reduceIte, pickAV, lenAV, intAV, slcA, slcAV, iaddrAV, extAV, fldAV, eqCells, eqCell, contAV, appendAV, foldAV, maxI, minI, Option.some.injEq, catT, AV.ren, renL, Blk.ren, renL_id (ix zs) (ltL_ix _ _)]
        refine hK _ _ _ nofun ?_
        clear hK K
        refine CWx.seq ?_
        by_cases n2 : (n : Int) ≤ 2
        · refine CWx.r fun K hK => ?_
          simp (maxSteps := 4000000) only [amC, amX, evsA, evpA, elemsA, elemsP, sizedA, optA, refA, consO, Am.get, AV.elem, AV.cells, AV.one, hsetL, hset, hget, loadAV, rowAt?, loadCells', faddrAV, binAV, fillA, storeAV, AV.putCells, AV.ref, List.foldl, List.all, List.map, List.set, List.take, List.drop, Option.getD, Option.map, if_true, if_false, Nat.reduceEqDiff, Nat.reduceAdd, Nat.reduceLT, Nat.reduceLeDiff, reduceCtorEq, ↓reduceIte, pickAV, lenAV, intAV, slcA, slcAV, iaddrAV, extAV, fldAV, eqCells, eqCell, contAV, appendAV, foldAV, maxI, minI, Option.some.injEq, catT, n2]
          refine hK _ _ _ nofun ?_
          clear hK K
          refine CWx.condT rfl ?_
          have e0 : 0 < zs.length := by omega
          have z0 := ix_get zs e0
          rw [zv 0 n0] at z0
          obtain ⟨m, hm⟩ : ∃ m, m = n - 1 := ⟨_, rfl⟩
          have zm := ix_get zs (show m < zs.length by omega)
          rw [zv m (by omega)] at zm
          obtain ⟨a, ha⟩ : ∃ a, a = v.getD 0 0 := ⟨_, rfl⟩
          obtain ⟨b, hb⟩ : ∃ b, b = v.getD m 0 := ⟨_, rfl⟩
          have am : a < l.length := by rw [ha]; exact vm 0 n0
          have bm : b < l.length := by rw [hb]; exact vm m (by omega)
          have am' : (a : Int) < (l.length : Int) := by omega
          have bm' : (b : Int) < (l.length : Int) := by omega
          have pa := get_pts (getp am)
          have pb := get_pts (getp bm)
          rw [← ha] at z0
          rw [← hb] at zm
          have w1 : IntKind.i64.wrap ((n : Int) - 1) = (m : Int) := by rw [wr _ (by omega) (by omega)]; omega
          have n0' : (0 : Int) < (n : Int) := by omega
          have mn' : (m : Int) < (n : Int) := by omega
          have oa := all_ok hok am
          have ob := all_ok hok bm
          have hon : onB l p = (decide (left (l.getD a (0, 0)) (l.getD b (0, 0)) p = 0) && decide (dot (sub (l.getD a (0, 0)) p) (sub (l.getD b (0, 0)) p) ≤ 0)) := by
            unfold onB P
            rw [← hv, ← hnv, ← hm, ← ha, ← hb]
          have hli : locI l p = if onB l p = true then 0 else -1 := by unfold locI; rw [← hv, ← hnv, if_pos (by omega)]
          rw [hli, hon]
          refine CWx.r fun K hK => ?_
          simp (maxSteps := 4000000) only [amC, amX, evsA, evpA, elemsA, elemsP, sizedA, optA, refA, consO, Am.get, AV.elem, AV.cells, AV.one, hsetL, hset, hget, loadAV, rowAt?, loadCells', faddrAV, binAV, fillA, storeAV, AV.putCells, AV.ref, List.foldl, List.all, List.map, List.set, List.take, List.drop, Option.getD, Option.map, if_true, if_false, Nat.reduceEqDiff, Nat.reduceAdd, Nat.reduceLT, Nat.reduceLeDiff, reduceCtorEq, ↓reduceIte, pickAV, lenAV, intAV, slcA, slcAV, iaddrAV, extAV, fldAV, eqCells, eqCell, contAV, appendAV, foldAV, maxI, minI, Option.some.injEq, catT, pts, n0', mn', am', bm', w1, Int.natCast_nonneg, Int.toNat_natCast, Int.toNat_zero, Int.le_refl, List.length_map, z0, zm, pa, pb, pt, AV.cells, AV.elem, AV.one, List.all_cons, List.all_nil]
          refine hK _ _ _ (fun _ => rfl) ?_
          clear hK K
          refine CWx.seq ?_
          have k55 := c55' oa ob hp
          by_cases h1 : left (l.getD a (0, 0)) (l.getD b (0, 0)) p = 0
          · rw [h1] at k55
            have k57a := c57' oa hp
            have k57b := c57' ob hp
            have k56 := c56' (sub_small oa hp) (sub_small ob hp)
            by_cases h2 : dot (sub (l.getD a (0, 0)) p) (sub (l.getD b (0, 0)) p) ≤ 0
            · refine CWx.r fun K hK => ?_
              simp (maxSteps := 4000000) only [amC, amX, evsA, evpA, elemsA, elemsP, sizedA, optA, refA, consO, Am.get, AV.elem, AV.cells, AV.one, hsetL, hset, hget, loadAV, rowAt?, loadCells', faddrAV, binAV, fillA, storeAV, AV.putCells, AV.ref, List.foldl, List.all, List.map, List.set, List.take, List.drop, Option.getD, Option.map, if_true, if_false, Nat.reduceEqDiff, Nat.reduceAdd, Nat.reduceLT, Nat.reduceLeDiff, reduceCtorEq, ↓reduceIte, pickAV, lenAV, intAV, slcA, slcAV, iaddrAV, extAV, fldAV, eqCells, eqCell, contAV, appendAV, foldAV, maxI, minI, Option.some.injEq, catT, AV.cells]
              refine RCx.view (fid := 55) (caps := []) rfl rfl rfl k55 rfl ?_
              simp (maxSteps := 4000000) only [amC, amX, evsA, evpA, elemsA, elemsP, sizedA, optA, refA, consO, Am.get, AV.elem, AV.cells, AV.one, hsetL, hset, hget, loadAV, rowAt?, loadCells', faddrAV, binAV, fillA, storeAV, AV.putCells, AV.ref, List.foldl, List.all, List.map, List.set, List.take, List.drop, Option.getD, Option.map, if_true, if_false, Nat.reduceEqDiff, Nat.reduceAdd, Nat.reduceLT, Nat.reduceLeDiff, reduceCtorEq, ↓reduceIte, pickAV, lenAV, intAV, slcA, slcAV, iaddrAV, extAV, fldAV, eqCells, eqCell, contAV, appendAV, foldAV, maxI, minI, Option.some.injEq, catT, show ((0 : Int) == 0) = true from rfl, AV.cells]
              refine RCx.view (fid := 57) (caps := []) rfl rfl rfl k57a rfl ?_
              simp (maxSteps := 4000000) only [amC, amX, evsA, evpA, elemsA, elemsP, sizedA, optA, refA, consO, Am.get, AV.elem, AV.cells, AV.one, hsetL, hset, hget, loadAV, rowAt?, loadCells', faddrAV, binAV, fillA, storeAV, AV.putCells, AV.ref, List.foldl, List.all, List.map, List.set, List.take, List.drop, Option.getD, Option.map, if_true, if_false, Nat.reduceEqDiff, Nat.reduceAdd, Nat.reduceLT, Nat.reduceLeDiff, reduceCtorEq, ↓reduceIte, pickAV, lenAV, intAV, slcA, slcAV, iaddrAV, extAV, fldAV, eqCells, eqCell, contAV, appendAV, foldAV, maxI, minI, Option.some.injEq, catT, AV.cells]
              refine RCx.view (fid := 57) (caps := []) rfl rfl rfl k57b rfl ?_
              simp (maxSteps := 4000000) only [amC, amX, evsA, evpA, elemsA, elemsP, sizedA, optA, refA, consO, Am.get, AV.elem, AV.cells, AV.one, hsetL, hset, hget, loadAV, rowAt?, loadCells', faddrAV, binAV, fillA, storeAV, AV.putCells, AV.ref, List.foldl, List.all, List.map, List.set, List.take, List.drop, Option.getD, Option.map, if_true, if_false, Nat.reduceEqDiff, Nat.reduceAdd, Nat.reduceLT, Nat.reduceLeDiff, reduceCtorEq, ↓reduceIte, pickAV, lenAV, intAV, slcA, slcAV, iaddrAV, extAV, fldAV, eqCells, eqCell, contAV, appendAV, foldAV, maxI, minI, Option.some.injEq, catT, AV.cells]
              refine RCx.view (fid := 56) (caps := []) rfl rfl rfl k56 rfl ?_
              simp (maxSteps := 4000000) only [amC, amX, evsA, evpA, elemsA, elemsP, sizedA, optA, refA, consO, Am.get, AV.elem, AV.cells, AV.one, hsetL, hset, hget, loadAV, rowAt?, loadCells', faddrAV, binAV, fillA, storeAV, AV.putCells, AV.ref, List.foldl, List.all, List.map, List.set, List.take, List.drop, Option.getD, Option.map, if_true, if_false, Nat.reduceEqDiff, Nat.reduceAdd, Nat.reduceLT, Nat.reduceLeDiff, reduceCtorEq, ↓reduceIte, pickAV, lenAV, intAV, slcA, slcAV, iaddrAV, extAV, fldAV, eqCells, eqCell, contAV, appendAV, foldAV, maxI, minI, Option.some.injEq, catT, h2]
              refine hK _ _ _ (fun _ => rfl) ?_
              clear hK K
              refine CWx.condT rfl ?_
              refine CWx.r fun K hK => ?_
              simp (maxSteps := 4000000) only [amC, amX, evsA, evpA, elemsA, elemsP, sizedA, optA, refA, consO, Am.get, AV.elem, AV.cells, AV.one, hsetL, hset, hget, loadAV, rowAt?, loadCells', faddrAV, binAV, fillA, storeAV, AV.putCells, AV.ref, List.foldl, List.all, List.map, List.set, List.take, List.drop, Option.getD, Option.map, if_true, if_false, Nat.reduceEqDiff, Nat.reduceAdd, Nat.reduceLT, Nat.reduceLeDiff, reduceCtorEq, ↓reduceIte, pickAV, lenAV, intAV, slcA, slcAV, iaddrAV, extAV, fldAV, eqCells, eqCell, contAV, appendAV, foldAV, maxI, minI, Option.some.injEq, catT]
              refine hK _ _ _ nofun ?_
              clear hK K
              rw [show (if (decide (left (l.getD a (0, 0)) (l.getD b (0, 0)) p = 0) && decide (dot (sub (l.getD a (0, 0)) p) (sub (l.getD b (0, 0)) p) ≤ 0)) = true then (0 : Int) else -1) = 0 by rw [decide_eq_true h1, decide_eq_true h2]; rfl]
              exact CWx.ret fun al hal => finK_ext hal (finK_pure (.inr rfl) (xs := [.int .i64 0, .int .i64 0]) (by simp [resRV, Am.get]) rfl rfl)
            · refine CWx.r fun K hK => ?_
              simp (maxSteps := 4000000) only [amC, amX, evsA, evpA, elemsA, elemsP, sizedA, optA, refA, consO, Am.get, AV.elem, AV.cells, AV.one, hsetL, hset, hget, loadAV, rowAt?, loadCells', faddrAV, binAV, fillA, storeAV, AV.putCells, AV.ref, List.foldl, List.all, List.map, List.set, List.take, List.drop, Option.getD, Option.map, if_true, if_false, Nat.reduceEqDiff, Nat.reduceAdd, Nat.reduceLT, Nat.reduceLeDiff, reduceCtorEq, ↓reduceIte, pickAV, lenAV, intAV, slcA, slcAV, iaddrAV, extAV, fldAV, eqCells, eqCell, contAV, appendAV, foldAV, maxI, minI, Option.some.injEq, catT, AV.cells]
              refine RCx.view (fid := 55) (caps := []) rfl rfl rfl k55 rfl ?_
              simp (maxSteps := 4000000) only [amC, amX, evsA, evpA, elemsA, elemsP, sizedA, optA, refA, consO, Am.get, AV.elem, AV.cells, AV.one, hsetL, hset, hget, loadAV, rowAt?, loadCells', faddrAV, binAV, fillA, storeAV, AV.putCells, AV.ref, List.foldl, List.all, List.map, List.set, List.take, List.drop, Option.getD, Option.map, if_true, if_false, Nat.reduceEqDiff, Nat.reduceAdd, Nat.reduceLT, Nat.reduceLeDiff, reduceCtorEq, ↓reduceIte, pickAV, lenAV, intAV, slcA, slcAV, iaddrAV, extAV, fldAV, eqCells, eqCell, contAV, appendAV, foldAV, maxI, minI, Option.some.injEq, catT, show ((0 : Int) == 0) = true from rfl, AV.cells]
              refine RCx.view (fid := 57) (caps := []) rfl rfl rfl k57a rfl ?_
              simp (maxSteps := 4000000) only [amC, amX, evsA, evpA, elemsA, elemsP, sizedA, optA, refA, consO, Am.get, AV.elem, AV.cells, AV.one, hsetL, hset, hget, loadAV, rowAt?, loadCells', faddrAV, binAV, fillA, storeAV, AV.putCells, AV.ref, List.foldl, List.all, List.map, List.set, List.take, List.drop, Option.getD, Option.map, if_true, if_false, Nat.reduceEqDiff, Nat.reduceAdd, Nat.reduceLT, Nat.reduceLeDiff, reduceCtorEq, ↓reduceIte, pickAV, lenAV, intAV, slcA, slcAV, iaddrAV, extAV, fldAV, eqCells, eqCell, contAV, appendAV, foldAV, maxI, minI, Option.some.injEq, catT, AV.cells]
              refine RCx.view (fid := 57) (caps := []) rfl rfl rfl k57b rfl ?_
              simp (maxSteps := 4000000) only [amC, amX, evsA, evpA, elemsA, elemsP, sizedA, optA, refA, consO, Am.get, AV.elem, AV.cells, AV.one, hsetL, hset, hget, loadAV, rowAt?, loadCells', faddrAV, binAV, fillA, storeAV, AV.putCells, AV.ref, List.foldl, List.all, List.map, List.set, List.take, List.drop, Option.getD, Option.map, if_true, if_false, Nat.reduceEqDiff, Nat.reduceAdd, Nat.reduceLT, Nat.reduceLeDiff, reduceCtorEq, ↓reduceIte, pickAV, lenAV, intAV, slcA, slcAV, iaddrAV, extAV, fldAV, eqCells, eqCell, contAV, appendAV, foldAV, maxI, minI, Option.some.injEq, catT, AV.cells]
              refine RCx.view (fid := 56) (caps := []) rfl rfl rfl k56 rfl ?_
              simp (maxSteps := 4000000) only [amC, amX, evsA, evpA, elemsA, elemsP, sizedA, optA, refA, consO, Am.get, AV.elem, AV.cells, AV.one, hsetL, hset, hget, loadAV, rowAt?, loadCells', faddrAV, binAV, fillA, storeAV, AV.putCells, AV.ref, List.foldl, List.all, List.map, List.set, List.take, List.drop, Option.getD, Option.map, if_true, if_false, Nat.reduceEqDiff, Nat.reduceAdd, Nat.reduceLT, Nat.reduceLeDiff, reduceCtorEq, ↓reduceIte, pickAV, lenAV, intAV, slcA, slcAV, iaddrAV, extAV, fldAV, eqCells, eqCell, contAV, appendAV, foldAV, maxI, minI, Option.some.injEq, catT, h2]
              refine hK _ _ _ (fun _ => rfl) ?_
              clear hK K
              refine CWx.condF rfl (CWx.skip (CWx.go ?_))
              refine CWx.r fun K hK => ?_
              simp (maxSteps := 4000000) only [amC, amX, evsA, evpA, elemsA, elemsP, sizedA, optA, refA, consO, Am.get, AV.elem, AV.cells, AV.one, hsetL, hset, hget, loadAV, rowAt?, loadCells', faddrAV, binAV, fillA, storeAV, AV.putCells, AV.ref, List.foldl, List.all, List.map, List.set, List.take, List.drop, Option.getD, Option.map, if_true, if_false, Nat.reduceEqDiff, Nat.reduceAdd, Nat.reduceLT, Nat.reduceLeDiff, reduceCtorEq, ↓reduceIte, pickAV, lenAV, intAV, slcA, slcAV, iaddrAV, extAV, fldAV, eqCells, eqCell, contAV, appendAV, foldAV, maxI, minI, Option.some.injEq, catT]
              refine hK _ _ _ nofun ?_
              clear hK K
              rw [show (if (decide (left (l.getD a (0, 0)) (l.getD b (0, 0)) p = 0) && decide (dot (sub (l.getD a (0, 0)) p) (sub (l.getD b (0, 0)) p) ≤ 0)) = true then (0 : Int) else -1) = -1 by rw [decide_eq_false h2, Bool.and_false]; rfl]
              exact CWx.ret fun al hal => finK_ext hal (finK_pure (.inr rfl) (xs := [.int .i64 (-1), .int .i64 0]) (by simp [resRV, Am.get]) rfl rfl)
          · have h1' : (left (l.getD a (0, 0)) (l.getD b (0, 0)) p == 0) = false := beq_eq_false_iff_ne.2 h1
            refine CWx.r fun K hK => ?_
            simp (maxSteps := 4000000) only [amC, amX, evsA, evpA, elemsA, elemsP, sizedA, optA, refA, consO, Am.get, AV.elem, AV.cells, AV.one, hsetL, hset, hget, loadAV, rowAt?, loadCells', faddrAV, binAV, fillA, storeAV, AV.putCells, AV.ref, List.foldl, List.all, List.map, List.set, List.take, List.drop, Option.getD, Option.map, if_true, if_false, Nat.reduceEqDiff, Nat.reduceAdd, Nat.reduceLT, Nat.reduceLeDiff, reduceCtorEq, ↓reduceIte, pickAV, lenAV, intAV, slcA, slcAV, iaddrAV, extAV, fldAV, eqCells, eqCell, contAV, appendAV, foldAV, maxI, minI, Option.some.injEq, catT, AV.cells]
            refine RCx.view (fid := 55) (caps := []) rfl rfl rfl k55 rfl ?_
            simp (maxSteps := 4000000) only [amC, amX, evsA, evpA, elemsA, elemsP, sizedA, optA, refA, consO, Am.get, AV.elem, AV.cells, AV.one, hsetL, hset, hget, loadAV, rowAt?, loadCells', faddrAV, binAV, fillA, storeAV, AV.putCells, AV.ref, List.foldl, List.all, List.map, List.set, List.take, List.drop, Option.getD, Option.map, if_true, if_false, Nat.reduceEqDiff, Nat.reduceAdd, Nat.reduceLT, Nat.reduceLeDiff, reduceCtorEq, ↓reduceIte, pickAV, lenAV, intAV, slcA, slcAV, iaddrAV, extAV, fldAV, eqCells, eqCell, contAV, appendAV, foldAV, maxI, minI, Option.some.injEq, catT, h1', AV.cells]
            refine hK _ _ _ (fun _ => rfl) ?_
            clear hK K
            refine CWx.condF rfl (CWx.skip (CWx.go ?_))
            refine CWx.r fun K hK => ?_
            simp (maxSteps := 4000000) only [amC, amX, evsA, evpA, elemsA, elemsP, sizedA, optA, refA, consO, Am.get, AV.elem, AV.cells, AV.one, hsetL, hset, hget, loadAV, rowAt?, loadCells', faddrAV, binAV, fillA, storeAV, AV.putCells, AV.ref, List.foldl, List.all, List.map, List.set, List.take, List.drop, Option.getD, Option.map, if_true, if_false, Nat.reduceEqDiff, Nat.reduceAdd, Nat.reduceLT, Nat.reduceLeDiff, reduceCtorEq, ↓reduceIte, pickAV, lenAV, intAV, slcA, slcAV, iaddrAV, extAV, fldAV, eqCells, eqCell, contAV, appendAV, foldAV, maxI, minI, Option.some.injEq, catT]
            refine hK _ _ _ nofun ?_
            clear hK K
            rw [show (if (decide (left (l.getD a (0, 0)) (l.getD b (0, 0)) p = 0) && decide (dot (sub (l.getD a (0, 0)) p) (sub (l.getD b (0, 0)) p) ≤ 0)) = true then (0 : Int) else -1) = -1 by rw [decide_eq_false h1]; rfl]
            exact CWx.ret fun al hal => finK_ext hal (finK_pure (.inr rfl) (xs := [.int .i64 (-1), .int .i64 0]) (by simp [resRV, Am.get]) rfl rfl)
        · refine CWx.r fun K hK => ?_
          simp (maxSteps := 4000000) only [amC, amX, evsA, evpA, elemsA, elemsP, sizedA, optA, refA, consO, Am.get, AV.elem, AV.cells, AV.one, hsetL, hset, hget, loadAV, rowAt?, loadCells', faddrAV, binAV, fillA, storeAV, AV.putCells, AV.ref, List.foldl, List.all, List.map, List.set, List.take, List.drop, Option.getD, Option.map, if_true, if_false, Nat.reduceEqDiff, Nat.reduceAdd, Nat.reduceLT, Nat.reduceLeDiff, reduceCtorEq, ↓reduceIte, pickAV, lenAV, intAV, slcA, slcAV, iaddrAV, extAV, fldAV, eqCells, eqCell, contAV, appendAV, foldAV, maxI, minI, Option.some.injEq, catT, n2]
          refine hK _ _ _ nofun ?_
          clear hK K
          refine CWx.condF rfl (CWx.skip (CWx.go ?_))
          refine CWx.r fun K hK => ?_
          simp (maxSteps := 4000000) only [amC, amX, evsA, evpA, elemsA, elemsP, sizedA, optA, refA, consO, Am.get, AV.elem, AV.cells, AV.one, hsetL, hset, hget, loadAV, rowAt?, loadCells', faddrAV, binAV, fillA, storeAV, AV.putCells, AV.ref, List.foldl, List.all, List.map, List.set, List.take, List.drop, Option.getD, Option.map, if_true, if_false, Nat.reduceEqDiff, Nat.reduceAdd, Nat.reduceLT, Nat.reduceLeDiff, reduceCtorEq, ↓reduceIte, pickAV, lenAV, intAV, slcA, slcAV, iaddrAV, extAV, fldAV, eqCells, eqCell, contAV, appendAV, foldAV, maxI, minI, Option.some.injEq, catT]
          refine hK _ _ _ nofun ?_
          clear hK K
          refine CWx.seq ?_
          refine CWx.r fun K hK => ?_
          simp (maxSteps := 4000000) only [amC, amX, evsA, evpA, elemsA, elemsP, sizedA, optA, refA, consO, Am.get, AV.elem, AV.cells, AV.one, hsetL, hset, hget, loadAV, rowAt?, loadCells', faddrAV, binAV, fillA, storeAV, AV.putCells, AV.ref, List.foldl, List.all, List.map, List.set, List.take, List.drop, Option.getD, Option.map, if_true, if_false, Nat.reduceEqDiff, Nat.reduceAdd, Nat.reduceLT, Nat.reduceLeDiff, reduceCtorEq, ↓reduceIte, pickAV, lenAV, intAV, slcA, slcAV, iaddrAV, extAV, fldAV, eqCells, eqCell, contAV, appendAV, foldAV, maxI, minI, Option.some.injEq, catT]
          refine hK _ _ _ nofun ?_
          clear hK K
          refine CWx.block ?_
          refine CWx.loopF (fun i : Nat => n - i) (fun i => ⟨[(0, pts l), (3, .ptr 0 0 0 0), (7, .sl 1 0 0 n), (10, .int .i64 (outI l p i)), (62, .sl 1 0 0 n), (63, .int .i64 (n : Int)), (64, .int .i64 (i : Int))], [.row false 0 false 2 [pt p], .row false 0 false 1 (ix zs)]⟩)
            (fun i => i ≤ n ∧ ∀ j, j < i → ¬ sideI l p j < 0) (fun i hi => ?_) 0 ⟨Nat.zero_le _, fun j hj => by omega⟩ (Fgt.mk' 2 (by simp) (by simp [keepB, Am.get, AV.lt, ltL, lt_pts, pts, ltL_pt, outI]) rfl ⟨rfl, by simp only [Blk.lt, ltL_ix], trivial⟩)
          by_cases h : (i : Int) < (n : Int)
          · refine CWx.r fun K hK => ?_
            simp (maxSteps := 4000000) only [amC, amX, evsA, evpA, elemsA, elemsP, sizedA, optA, refA, consO, Am.get, AV.elem, AV.cells, AV.one, hsetL, hset, hget, loadAV, rowAt?, loadCells', faddrAV, binAV, fillA, storeAV, AV.putCells, AV.ref, List.foldl, List.all, List.map, List.set, List.take, List.drop, Option.getD, Option.map, if_true, if_false, Nat.reduceEqDiff, Nat.reduceAdd, Nat.reduceLT, Nat.reduceLeDiff, reduceCtorEq, ↓reduceIte, pickAV, lenAV, intAV, slcA, slcAV, iaddrAV, extAV, fldAV, eqCells, eqCell, contAV, appendAV, foldAV, maxI, minI, Option.some.injEq, catT, h]
            refine hK _ _ _ nofun ?_
            clear hK K
            refine CWx.seq ?_
            refine CWx.condT rfl (CWx.skip (CWx.go ?_))
            refine CWx.seq ?_
            refine CWx.block ?_
            have hin : i < n := by omega
            have hzi := ix_get zs (show i < zs.length by omega)
            rw [zv i hin] at hzi
            refine CWx.r fun K hK => ?_
            simp (maxSteps := 4000000) only [amC, amX, evsA, evpA, elemsA, elemsP, sizedA, optA, refA, consO, Am.get, AV.elem, AV.cells, AV.one, hsetL, hset, hget, loadAV, rowAt?, loadCells', faddrAV, binAV, fillA, storeAV, AV.putCells, AV.ref, List.foldl, List.all, List.map, List.set, List.take, List.drop, Option.getD, Option.map, if_true, if_false, Nat.reduceEqDiff, Nat.reduceAdd, Nat.reduceLT, Nat.reduceLeDiff, reduceCtorEq, ↓reduceIte, pickAV, lenAV, intAV, slcA, slcAV, iaddrAV, extAV, fldAV, eqCells, eqCell, contAV, appendAV, foldAV, maxI, minI, Option.some.injEq, catT, h, Int.natCast_nonneg, Int.toNat_natCast, hzi, AV.cells]
            refine hK _ _ _ nofun ?_
            clear hK K
            have hn00 : ¬ ((n : Int) = 0) := by omega
            obtain ⟨j, hj⟩ : ∃ j, j = (i + 1) % n := ⟨_, rfl⟩
            have hjn : j < n := by rw [hj]; exact Nat.mod_lt _ n0
            have w1 : IntKind.i64.wrap ((i : Int) + 1) = ((i + 1 : Nat) : Int) := wrap_nat i (by omega)
            have r1 : Int.tmod ((i + 1 : Nat) : Int) (n : Int) = (j : Int) := by rw [tmod_nat, ← hj]
            have hzj := ix_get zs (show j < zs.length by omega)
            rw [zv j hjn] at hzj
            have jn : (j : Int) < (n : Int) := by omega
            obtain ⟨a, ha⟩ : ∃ a, a = v.getD i 0 := ⟨_, rfl⟩
            obtain ⟨b, hb⟩ : ∃ b, b = v.getD j 0 := ⟨_, rfl⟩
            have am : a < l.length := by rw [ha]; exact vm i hin
            have bm : b < l.length := by rw [hb]; exact vm j hjn
            have am' : (a : Int) < (l.length : Int) := by omega
            have bm' : (b : Int) < (l.length : Int) := by omega
            have pa := get_pts (getp am)
            have pb := get_pts (getp bm)
            rw [← hb] at hzj
            rw [← ha]
            have k55 := c55' (all_ok hok am) (all_ok hok bm) hp
            have hs : sideI l p i = left (l.getD a (0, 0)) (l.getD b (0, 0)) p := by
              unfold sideI P
              rw [← hv, ← hnv, ← hj, ← ha, ← hb]
            rw [← hs] at k55
            refine CWx.r fun K hK => ?_
            simp (maxSteps := 4000000) only [amC, amX, evsA, evpA, elemsA, elemsP, sizedA, optA, refA, consO, Am.get, AV.elem, AV.cells, AV.one, hsetL, hset, hget, loadAV, rowAt?, loadCells', faddrAV, binAV, fillA, storeAV, AV.putCells, AV.ref, List.foldl, List.all, List.map, List.set, List.take, List.drop, Option.getD, Option.map, if_true, if_false, Nat.reduceEqDiff, Nat.reduceAdd, Nat.reduceLT, Nat.reduceLeDiff, reduceCtorEq, ↓reduceIte, pickAV, lenAV, intAV, slcA, slcAV, iaddrAV, extAV, fldAV, eqCells, eqCell, contAV, appendAV, foldAV, maxI, minI, Option.some.injEq, catT, pts, w1, hn00, r1, jn, am', bm', Int.natCast_nonneg, Int.toNat_natCast, List.length_map, hzj, pa, pb, pt, AV.cells]
            refine RCx.view (fid := 55) (caps := []) rfl rfl rfl k55 rfl ?_
            simp (maxSteps := 4000000) only [amC, amX, evsA, evpA, elemsA, elemsP, sizedA, optA, refA, consO, Am.get, AV.elem, AV.cells, AV.one, hsetL, hset, hget, loadAV, rowAt?, loadCells', faddrAV, binAV, fillA, storeAV, AV.putCells, AV.ref, List.foldl, List.all, List.map, List.set, List.take, List.drop, Option.getD, Option.map, if_true, if_false, Nat.reduceEqDiff, Nat.reduceAdd, Nat.reduceLT, Nat.reduceLeDiff, reduceCtorEq, ↓reduceIte, pickAV, lenAV, intAV, slcA, slcAV, iaddrAV, extAV, fldAV, eqCells, eqCell, contAV, appendAV, foldAV, maxI, minI, Option.some.injEq, catT]
            refine hK _ _ _ (fun _ => rfl) ?_
            clear hK K
            refine CWx.seq ?_
            by_cases h1 : sideI l p i < 0
            · refine CWx.r fun K hK => ?_
              simp (maxSteps := 4000000) only [amC, amX, evsA, evpA, elemsA, elemsP, sizedA, optA, refA, consO, Am.get, AV.elem, AV.cells, AV.one, hsetL, hset, hget, loadAV, rowAt?, loadCells', faddrAV, binAV, fillA, storeAV, AV.putCells, AV.ref, List.foldl, List.all, List.map, List.set, List.take, List.drop, Option.getD, Option.map, if_true, if_false, Nat.reduceEqDiff, Nat.reduceAdd, Nat.reduceLT, Nat.reduceLeDiff, reduceCtorEq, ↓reduceIte, pickAV, lenAV, intAV, slcA, slcAV, iaddrAV, extAV, fldAV, eqCells, eqCell, contAV, appendAV, foldAV, maxI, minI, Option.some.injEq, catT, h1]
              refine hK _ _ _ nofun ?_
              clear hK K
              refine CWx.condT rfl ?_
              refine CWx.r fun K hK => ?_
              simp (maxSteps := 4000000) only [amC, amX, evsA, evpA, elemsA, elemsP, sizedA, optA, refA, consO, Am.get, AV.elem, AV.cells, AV.one, hsetL, hset, hget, loadAV, rowAt?, loadCells', faddrAV, binAV, fillA, storeAV, AV.putCells, AV.ref, List.foldl, List.all, List.map, List.set, List.take, List.drop, Option.getD, Option.map, if_true, if_false, Nat.reduceEqDiff, Nat.reduceAdd, Nat.reduceLT, Nat.reduceLeDiff, reduceCtorEq, ↓reduceIte, pickAV, lenAV, intAV, slcA, slcAV, iaddrAV, extAV, fldAV, eqCells, eqCell, contAV, appendAV, foldAV, maxI, minI, Option.some.injEq, catT]
              refine hK _ _ _ nofun ?_
              clear hK K
              have hli : locI l p = -1 := by
                unfold locI
                rw [← hv, ← hnv, if_neg (by omega), if_pos]
                exact List.any_eq_true.2 ⟨i, List.mem_range.2 hin, by simpa using h1⟩
              rw [hli]
              exact CWx.ret fun al hal => finK_ext hal (finK_pure (.inr rfl) (xs := [.int .i64 (-1), .int .i64 0]) (by simp [resRV, Am.get]) rfl rfl)
            · have q : ∀ j, j < i + 1 → ¬ sideI l p j < 0 := fun j hj => by
                by_cases e : j = i
                · rw [e]; exact h1
                · exact hi.2 j (by omega)
              refine CWx.r fun K hK => ?_
              simp (maxSteps := 4000000) only [amC, amX, evsA, evpA, elemsA, elemsP, sizedA, optA, refA, consO, Am.get, AV.elem, AV.cells, AV.one, hsetL, hset, hget, loadAV, rowAt?, loadCells', faddrAV, binAV, fillA, storeAV, AV.putCells, AV.ref, List.foldl, List.all, List.map, List.set, List.take, List.drop, Option.getD, Option.map, if_true, if_false, Nat.reduceEqDiff, Nat.reduceAdd, Nat.reduceLT, Nat.reduceLeDiff, reduceCtorEq, ↓reduceIte, pickAV, lenAV, intAV, slcA, slcAV, iaddrAV, extAV, fldAV, eqCells, eqCell, contAV, appendAV, foldAV, maxI, minI, Option.some.injEq, catT, h1]
              refine hK _ _ _ nofun ?_
              clear hK K
              refine CWx.condF rfl (CWx.skip (CWx.go ?_))
              by_cases h2 : sideI l p i = 0
              · have h2' : (sideI l p i == 0) = true := by simp [h2]
                have ho : outI l p (i + 1) = 0 := by rw [outI_succ, if_pos h2]
                refine CWx.r fun K hK => ?_
                simp (maxSteps := 4000000) only [amC, amX, evsA, evpA, elemsA, elemsP, sizedA, optA, refA, consO, Am.get, AV.elem, AV.cells, AV.one, hsetL, hset, hget, loadAV, rowAt?, loadCells', faddrAV, binAV, fillA, storeAV, AV.putCells, AV.ref, List.foldl, List.all, List.map, List.set, List.take, List.drop, Option.getD, Option.map, if_true, if_false, Nat.reduceEqDiff, Nat.reduceAdd, Nat.reduceLT, Nat.reduceLeDiff, reduceCtorEq, ↓reduceIte, pickAV, lenAV, intAV, slcA, slcAV, iaddrAV, extAV, fldAV, eqCells, eqCell, contAV, appendAV, foldAV, maxI, minI, Option.some.injEq, catT, h2']
                refine hK _ _ _ nofun ?_
                clear hK K
                refine CWx.condT rfl ?_
                refine CWx.e fun K hK => ?_
                simp (maxSteps := 4000000) only [amC, amX, evsA, evpA, elemsA, elemsP, sizedA, optA, refA, consO, Am.get, AV.elem, AV.cells, AV.one, hsetL, hset, hget, loadAV, rowAt?, loadCells', faddrAV, binAV, fillA, storeAV, AV.putCells, AV.ref, List.foldl, List.all, List.map, List.set, List.take, List.drop, Option.getD, Option.map, if_true, if_false, Nat.reduceEqDiff, Nat.reduceAdd, Nat.reduceLT, Nat.reduceLeDiff, reduceCtorEq, ↓reduceIte, pickAV, lenAV, intAV, slcA, slcAV, iaddrAV, extAV, fldAV, eqCells, eqCell, contAV, appendAV, foldAV, maxI, minI, Option.some.injEq, catT]
                refine hK _ _ _ nofun ?_
                clear hK K
                refine CWx.go ?_
                refine CWx.e fun K hK => ?_
                simp (maxSteps := 4000000) only [amC, amX, evsA, evpA, elemsA, elemsP, sizedA, optA, refA, consO, Am.get, AV.elem, AV.cells, AV.one, hsetL, hset, hget, loadAV, rowAt?, loadCells', faddrAV, binAV, fillA, storeAV, AV.putCells, AV.ref, List.foldl, List.all, List.map, List.set, List.take, List.drop, Option.getD, Option.map, if_true, if_false, Nat.reduceEqDiff, Nat.reduceAdd, Nat.reduceLT, Nat.reduceLeDiff, reduceCtorEq, ↓reduceIte, pickAV, lenAV, intAV, slcA, slcAV, iaddrAV, extAV, fldAV, eqCells, eqCell, contAV, appendAV, foldAV, maxI, minI, Option.some.injEq, catT, wrap_nat i (by omega)]
                refine hK _ _ _ nofun ?_
                clear hK K
                intro al hal
                exact ⟨i + 1, by omega, ⟨by omega, q⟩, Fgt.ofx hal (Fgt.mk' 2 (by simp) (by simp [keepB, Am.get, AV.lt, ltL, lt_pts, pts, ltL_pt, ho]) rfl ⟨rfl, by simp only [Blk.lt, ltL_ix], trivial⟩)⟩
              · have h2' : (sideI l p i == 0) = false := beq_eq_false_iff_ne.2 h2
                have ho : outI l p (i + 1) = outI l p i := by rw [outI_succ, if_neg h2]
                refine CWx.r fun K hK => ?_
                simp (maxSteps := 4000000) only [amC, amX, evsA, evpA, elemsA, elemsP, sizedA, optA, refA, consO, Am.get, AV.elem, AV.cells, AV.one, hsetL, hset, hget, loadAV, rowAt?, loadCells', faddrAV, binAV, fillA, storeAV, AV.putCells, AV.ref, List.foldl, List.all, List.map, List.set, List.take, List.drop, Option.getD, Option.map, if_true, if_false, Nat.reduceEqDiff, Nat.reduceAdd, Nat.reduceLT, Nat.reduceLeDiff, reduceCtorEq, ↓reduceIte, pickAV, lenAV, intAV, slcA, slcAV, iaddrAV, extAV, fldAV, eqCells, eqCell, contAV, appendAV, foldAV, maxI, minI, Option.some.injEq, catT, h2']
                refine hK _ _ _ nofun ?_
                clear hK K
                refine CWx.condF rfl (CWx.skip (CWx.go ?_))
                refine CWx.e fun K hK => ?_
                simp (maxSteps := 4000000) only [amC, amX, evsA, evpA, elemsA, elemsP, sizedA, optA, refA, consO, Am.get, AV.elem, AV.cells, AV.one, hsetL, hset, hget, loadAV, rowAt?, loadCells', faddrAV, binAV, fillA, storeAV, AV.putCells, AV.ref, List.foldl, List.all, List.map, List.set, List.take, List.drop, Option.getD, Option.map, if_true, if_false, Nat.reduceEqDiff, Nat.reduceAdd, Nat.reduceLT, Nat.reduceLeDiff, reduceCtorEq, ↓reduceIte, pickAV, lenAV, intAV, slcA, slcAV, iaddrAV, extAV, fldAV, eqCells, eqCell, contAV, appendAV, foldAV, maxI, minI, Option.some.injEq, catT, wrap_nat i (by omega)]
                refine hK _ _ _ nofun ?_
                clear hK K
                intro al hal
                exact ⟨i + 1, by omega, ⟨by omega, q⟩, Fgt.ofx hal (Fgt.mk' 2 (by simp) (by simp [keepB, Am.get, AV.lt, ltL, lt_pts, pts, ltL_pt, ho]) rfl ⟨rfl, by simp only [Blk.lt, ltL_ix], trivial⟩)⟩
          · refine CWx.r fun K hK => ?_
            simp (maxSteps := 4000000) only [amC, amX, evsA, evpA, elemsA, elemsP, sizedA, optA, refA, consO, Am.get, AV.elem, AV.cells, AV.one, hsetL, hset, hget, loadAV, rowAt?, loadCells', faddrAV, binAV, fillA, storeAV, AV.putCells, AV.ref, List.foldl, List.all, List.map, List.set, List.take, List.drop, Option.getD, Option.map, if_true, if_false, Nat.reduceEqDiff, Nat.reduceAdd, Nat.reduceLT, Nat.reduceLeDiff, reduceCtorEq, ↓reduceIte, pickAV, lenAV, intAV, slcA, slcAV, iaddrAV, extAV, fldAV, eqCells, eqCell, contAV, appendAV, foldAV, maxI, minI, Option.some.injEq, catT, h]
            refine hK _ _ _ nofun ?_
            clear hK K
            refine CWx.seq ?_
            refine CWx.condF rfl (CWx.exit (CWx.go ?_))
            refine CWx.r fun K hK => ?_
            simp (maxSteps := 4000000) only [amC, amX, evsA, evpA, elemsA, elemsP, sizedA, optA, refA, consO, Am.get, AV.elem, AV.cells, AV.one, hsetL, hset, hget, loadAV, rowAt?, loadCells', faddrAV, binAV, fillA, storeAV, AV.putCells, AV.ref, List.foldl, List.all, List.map, List.set, List.take, List.drop, Option.getD, Option.map, if_true, if_false, Nat.reduceEqDiff, Nat.reduceAdd, Nat.reduceLT, Nat.reduceLeDiff, reduceCtorEq, ↓reduceIte, pickAV, lenAV, intAV, slcA, slcAV, iaddrAV, extAV, fldAV, eqCells, eqCell, contAV, appendAV, foldAV, maxI, minI, Option.some.injEq, catT]
            refine hK _ _ _ nofun ?_
            clear hK K
            have hin : i = n := by omega
            have hli : locI l p = outI l p i := by
              unfold locI
              rw [← hv, ← hnv, if_neg (by omega), if_neg, hin]
              intro ha
              obtain ⟨j, hj, hj2⟩ := List.any_eq_true.1 ha
              exact hi.2 j (by have := List.mem_range.1 hj; omega) (by simpa using hj2)
            rw [hli]
            exact CWx.ret fun al hal => finK_ext hal (finK_pure (.inr rfl) (xs := [.int .i64 (outI l p i), .int .i64 0]) (by simp [resRV, Am.get]) rfl rfl)
    · simp (maxSteps := 4000000) only [amC, amX, evsA, evpA, elemsA, elemsP, sizedA, optA, refA, consO, Am.get, AV.elem, AV.cells, AV.one, hsetL, hset, hget, loadAV, rowAt?, loadCells', faddrAV, binAV, fillA, storeAV, AV.putCells, AV.ref, List.foldl, List.all, List.map, List.set, List.take, List.drop, Option.getD, Option.map, if_true, if_false, Nat.reduceEqDiff, Nat.reduceAdd, Nat.reduceLT, Nat.reduceLeDiff, reduceCtorEq, ↓reduceIte, pickAV, lenAV, intAV, slcA, slcAV, iaddrAV, extAV, fldAV, eqCells, eqCell, contAV, appendAV, foldAV, maxI, minI, Option.some.injEq, catT, hp]
      refine hK _ _ _ nofun ?_
      clear hK K
      refine CWx.condT rfl ?_
      refine CWx.r fun K hK => ?_
      simp (maxSteps := 4000000) only [amC, amX, evsA, evpA, elemsA, elemsP, sizedA, optA, refA, consO, Am.get, AV.elem, AV.cells, AV.one, hsetL, hset, hget, loadAV, rowAt?, loadCells', faddrAV, binAV, fillA, storeAV, AV.putCells, AV.ref, List.foldl, List.all, List.map, List.set, List.take, List.drop, Option.getD, Option.map, if_true, if_false, Nat.reduceEqDiff, Nat.reduceAdd, Nat.reduceLT, Nat.reduceLeDiff, reduceCtorEq, ↓reduceIte, pickAV, lenAV, intAV, slcA, slcAV, iaddrAV, extAV, fldAV, eqCells, eqCell, contAV, appendAV, foldAV, maxI, minI, Option.some.injEq, catT]
      refine hK _ _ _ nofun ?_
      clear hK K
      have hp' : okP p = false := by simpa using hp
      have hr : locR l p = (0, 2) := by unfold locR; rw [if_neg (by simp [hc]), if_pos hp']
      rw [hr]
      exact CWx.ret fun al hal => finK_ext hal (finK_pure (.inr rfl) (xs := [.int .i64 0, .int .i64 2]) (by simp [resRV, Am.get]) rfl rfl)
  · have hc' : (chk l != 0) = true := by simpa using hc
    simp (maxSteps := 4000000) only [amC, amX, evsA, evpA, elemsA, elemsP, sizedA, optA, refA, consO, Am.get, AV.elem, AV.cells, AV.one, hsetL, hset, hget, loadAV, rowAt?, loadCells', faddrAV, binAV, fillA, storeAV, AV.putCells, AV.ref, List.foldl, List.all, List.map, List.set, List.take, List.drop, Option.getD, Option.map, if_true, if_false, Nat.reduceEqDiff, Nat.reduceAdd, Nat.reduceLT, Nat.reduceLeDiff, reduceCtorEq, ↓reduceIte, pickAV, lenAV, intAV, slcA, slcAV, iaddrAV, extAV, fldAV, eqCells, eqCell, contAV, appendAV, foldAV, maxI, minI, Option.some.injEq, catT]
    refine hK _ _ _ nofun ?_
    clear hK K
    refine CWx.r fun K hK => ?_
    simp (maxSteps := 4000000) only [amC, amX, evsA, evpA, elemsA, elemsP, sizedA, optA, refA, consO, Am.get, AV.elem, AV.cells, AV.one, hsetL, hset, hget, loadAV, rowAt?, loadCells', faddrAV, binAV, fillA, storeAV, AV.putCells, AV.ref, List.foldl, List.all, List.map, List.set, List.take, List.drop, Option.getD, Option.map, if_true, if_false, Nat.reduceEqDiff, Nat.reduceAdd, Nat.reduceLT, Nat.reduceLeDiff, reduceCtorEq, ↓reduceIte, pickAV, lenAV, intAV, slcA, slcAV, iaddrAV, extAV, fldAV, eqCells, eqCell, contAV, appendAV, foldAV, maxI, minI, Option.some.injEq, catT, hc']
    refine hK _ _ _ nofun ?_
    clear hK K
    refine CWx.condT rfl ?_
    refine CWx.r fun K hK => ?_
    simp (maxSteps := 4000000) only [amC, amX, evsA, evpA, elemsA, elemsP, sizedA, optA, refA, consO, Am.get, AV.elem, AV.cells, AV.one, hsetL, hset, hget, loadAV, rowAt?, loadCells', faddrAV, binAV, fillA, storeAV, AV.putCells, AV.ref, List.foldl, List.all, List.map, List.set, List.take, List.drop, Option.getD, Option.map, if_true, if_false, Nat.reduceEqDiff, Nat.reduceAdd, Nat.reduceLT, Nat.reduceLeDiff, reduceCtorEq, ↓reduceIte, pickAV, lenAV, intAV, slcA, slcAV, iaddrAV, extAV, fldAV, eqCells, eqCell, contAV, appendAV, foldAV, maxI, minI, Option.some.injEq, catT]
    refine hK _ _ _ nofun ?_
    clear hK K
    have hr : locR l p = (0, chk l) := by unfold locR; rw [if_pos hc]
    rw [hr]
    exact CWx.ret fun al hal => finK_ext hal (finK_pure (.inr rfl) (xs := [.int .i64 0, .int .i64 (chk l)]) (by simp [resRV, Am.get]) rfl rfl)
end Go.Hull
end
section
set_option linter.unusedSimpArgs false
set_option linter.unusedVariables false
namespace Go.Am
open Go Go.RowKit

section
variable {P : Program} {m0 : Nat} {tp : Bool} {K : Exit → St → Prop}

theorem CWx.br {c : Opd} {x y : CCode} {l : List (Nat × AV)} {hl : List Blk} {b : Bool} (hc : evA l c = .bool b) (h1 : b = true → CWx P m0 tp x l hl K) (h2 : b = false → CWx P m0 tp y l hl K) : CWx P m0 tp (.cond c x y) l hl K := by
  cases b with
  | true => exact CWx.condT hc (h1 rfl)
  | false => exact CWx.condF hc (h2 rfl)
theorem gX_split {K : KX} {b w : Bool} {op : AOp} {dst : Option Nat} {bef : Nat} {cs : List COp} {l : List (Nat × AV)} {hl : List Blk} {tr : Tr}
    (h1 : b = true → gX P (.bool true) w op dst bef cs l hl tr K) (h2 : b = false → gX P (.bool false) w op dst bef cs l hl tr K) : gX P (.bool b) w op dst bef cs l hl tr K := by
  cases b with
  | true => exact h1 rfl
  | false => exact h2 rfl
/-- Slots that are kept as they are. -/
def keepA (l : List (Nat × AV)) : List Nat → List (Nat × AV)
  | [] => []
  | k :: ks => (k, get l k) :: keepA l ks
/-- A loop; L: the slots at its head; H: the rows. -/
theorem CWx.loopK {ι : Type} {c : CCode} {l : List (Nat × AV)} {hl : List Blk} (ks : List Nat) (μ : ι → Nat) (f : ι → List (Nat × AV)) (g : ι → List Blk) (Q : ι → Prop) {L : ι → List (Nat × AV)} (hL : ∀ i, f i ++ keepA l ks = L i)
    (i0 : ι) (hq : Q i0) (hs : Fgt m0 ⟨l, hl⟩ ⟨L i0, g i0⟩)
    (h : ∀ i, Q i → CWx P m0 tp c (L i) (g i) (thenK K fun s' => ∃ j, μ j < μ i ∧ Q j ∧ Fgt m0 s' ⟨L j, g j⟩)) : CWx P m0 tp (.loop c) l hl K :=
  CWx.loopF μ (fun i => ⟨L i, g i⟩) Q h i0 hq hs
theorem viewArgs_nil {hl : List Blk} : viewArgs hl [] = some ([], []) := rfl
theorem viewArgs_cons {hl : List Blk} {x y : AV} {xs ys : List AV} {T T' : List Nat} (h1 : viewG hl 6 x = some (y, T)) (h2 : viewArgs hl xs = some (ys, T')) : viewArgs hl (x :: xs) = some (y :: ys, T ++ T') := by
  simp only [viewArgs, h1, h2]
end

theorem wr62 (n : Int) (h : -4611686018427387904 ≤ n ∧ n ≤ 4611686018427387904) : IntKind.i64.wrap n = n := IntWalk.i64_in _ (by omega)
theorem natAdd1 (i : Nat) : (i : Int) + 1 = ((i + 1 : Nat) : Int) := rfl
theorem natAddN (i j : Nat) : (i : Int) + (j : Int) = ((i + j : Nat) : Int) := rfl
theorem natSub1 (i : Nat) (h : 1 ≤ i) : (i : Int) - 1 = ((i - 1 : Nat) : Int) := by omega
theorem natSubN (i j : Nat) (h : j ≤ i) : (i : Int) - (j : Int) = ((i - j : Nat) : Int) := by omega
theorem tmodN (a n : Nat) : Int.tmod (a : Int) (n : Int) = ((a % n : Nat) : Int) := (Int.ofNat_tmod a n).symm
theorem tdivN (a n : Nat) : Int.tdiv (a : Int) (n : Int) = ((a / n : Nat) : Int) := (Int.ofNat_tdiv a n).symm
theorem toNat_cast (n : Nat) : ((n : Int)).toNat = n := Int.toNat_natCast n
theorem appB (n : Nat) : (n ≤ appBound) = (n ≤ 70368744177664) := rfl
end Go.Am
end
section
set_option linter.unusedVariables false
set_option linter.defProp false
namespace Go.Am
open Go

section
variable (k : IntKind) (n m : Int) (b c : Bool) (s : ByteArray) (cs xs : List AV) (q w g i j o sz rsz f : Nat) (v : Bool) (h : Nat → Blk) (hl : List Blk)
theorem cells_agg : (AV.agg cs).cells = cs := rfl
theorem cells_tup : (AV.tup cs).cells = [.tup cs] := rfl
theorem cells_int : (AV.int k n).cells = [.int k n] := rfl
theorem cells_bool : (AV.bool b).cells = [.bool b] := rfl
theorem cells_str : (AV.str s).cells = [.str s] := rfl
theorem cells_nilp : (AV.nilp).cells = [.nilp] := rfl
theorem cells_nilf : (AV.nilf).cells = [.nilf] := rfl
theorem cells_nili : (AV.nili).cells = [.nili] := rfl
theorem cells_nils : (AV.nils).cells = [.nils] := rfl
theorem cells_sv : (AV.sv v sz xs).cells = [.sv v sz xs] := rfl
theorem cells_sl : (AV.sl q g i j).cells = [.sl q g i j] := rfl
theorem cells_ptr : (AV.ptr q g i j).cells = [.ptr q g i j] := rfl
theorem cells_rp : (AV.rp v xs).cells = [.rp v xs] := rfl
theorem cells_clo : (AV.clo f xs).cells = [.clo f xs] := rfl
theorem one_int : (AV.int k n).one = true := rfl
theorem one_bool : (AV.bool b).one = true := rfl
theorem one_str : (AV.str s).one = true := rfl
theorem one_nilp : (AV.nilp).one = true := rfl
theorem one_nilf : (AV.nilf).one = true := rfl
theorem one_nili : (AV.nili).one = true := rfl
theorem one_nils : (AV.nils).one = true := rfl
theorem one_sv : (AV.sv v sz xs).one = true := rfl
theorem one_sl : (AV.sl q g i j).one = true := rfl
theorem one_ptr : (AV.ptr q g i j).one = true := rfl
theorem one_rp : (AV.rp v xs).one = true := rfl
theorem one_clo : (AV.clo f xs).one = true := rfl
theorem elem_agg : (AV.agg cs).elem = cs.all AV.one := rfl
theorem elem_int : (AV.int k n).elem = true := rfl
theorem elem_bool : (AV.bool b).elem = true := rfl
theorem elem_str : (AV.str s).elem = true := rfl
theorem elem_nilp : (AV.nilp).elem = true := rfl
theorem elem_nilf : (AV.nilf).elem = true := rfl
theorem elem_nili : (AV.nili).elem = true := rfl
theorem elem_nils : (AV.nils).elem = true := rfl
theorem elem_sv : (AV.sv v sz xs).elem = true := rfl
theorem elem_sl : (AV.sl q g i j).elem = true := rfl
theorem elem_ptr : (AV.ptr q g i j).elem = true := rfl
theorem elem_rp : (AV.rp v xs).elem = true := rfl
theorem elem_clo : (AV.clo f xs).elem = true := rfl
theorem lenAV_sl : lenAV (.sl q g i j) = some (.int .i64 j) := rfl
theorem lenAV_sv : lenAV (.sv v sz xs) = some (.int .i64 xs.length) := rfl
theorem lenAV_nils : lenAV .nils = some (.int .i64 0) := rfl
theorem ia_sl : iaddrAV h sz n (.sl q g i j) = (match rowAt? h q g with
    | some (_, rsz, _) => if rsz = sz ∧ 0 ≤ n ∧ n < (j : Int) then some (.ptr q g (i + n.toNat) 0) else none
    | none => none) := rfl
theorem ia_sv : iaddrAV h sz n (.sv v rsz xs) = if rsz = sz ∧ 0 ≤ n ∧ n < (xs.length : Int) then (xs[n.toNat]?).map fun e => .rp v e.cells else none := rfl
theorem ld_ptr : loadAV h b sz (.ptr q g i o) = (match rowAt? h q g with
    | some (_, _, xs) => match xs[i]? with
      | some e => loadCells' b sz (e.cells.drop o)
      | none => none
    | none => none) := rfl
theorem ld_rp : loadAV h b sz (.rp v cs) = loadCells' b sz cs := rfl
theorem st_ptr (x : AV) : storeAV h sz x (.ptr q g i o) = (match rowAt? h q g with
    | some (false, rsz, xs) => match xs[i]? with
      | some e => if x.elem = true ∧ x.cells.length = sz ∧ o + sz ≤ rsz then some (q, .row false g false rsz (xs.set i (e.putCells o x.cells))) else none
      | none => none
    | _ => none) := rfl
theorem fa_ptr : faddrAV w (.ptr q g i o) = some (.ptr q g i (o + w)) := rfl
theorem fa_rp : faddrAV w (.rp v cs) = some (.rp v (cs.drop w)) := rfl
theorem put_agg : (AV.agg cs).putCells o xs = .agg (cs.take o ++ xs ++ cs.drop (o + xs.length)) := rfl
theorem put_int (x : AV) : (AV.int k n).putCells o [x] = x := rfl
theorem put_bool (x : AV) : (AV.bool b).putCells o [x] = x := rfl
theorem put_str (x : AV) : (AV.str s).putCells o [x] = x := rfl
theorem put_nilp (x : AV) : (AV.nilp).putCells o [x] = x := rfl
theorem put_nilf (x : AV) : (AV.nilf).putCells o [x] = x := rfl
theorem put_nils (x : AV) : (AV.nils).putCells o [x] = x := rfl
theorem put_sl (x : AV) : (AV.sl q g i j).putCells o [x] = x := rfl
theorem put_sv (x : AV) : (AV.sv v sz xs).putCells o [x] = x := rfl
theorem put_ptr (x : AV) : (AV.ptr q g i j).putCells o [x] = x := rfl
theorem put_rp (x : AV) : (AV.rp v xs).putCells o [x] = x := rfl
theorem put_clo (x : AV) : (AV.clo f xs).putCells o [x] = x := rfl
theorem slc_sl (l u : Option Int) : slcA hl sz l u (.sl q g i j) = (match hget hl q with
    | .row _ g' _ rsz _ => if g' = g ∧ rsz = sz then (slcAV l u (.sl q g i j)).map fun v => { v := v } else none
    | .dead => none) := rfl
theorem slc_sv (l u : Option Int) : slcA hl sz l u (.sv v rsz xs) = if rsz = sz then (slcAV l u (.sv v rsz xs)).map fun v => { v := v } else none := rfl
theorem slcAV_sl (l u : Option Int) : slcAV l u (.sl q g i j) = let l := l.getD 0; let u := u.getD j; if 0 ≤ l ∧ l ≤ u ∧ u ≤ (j : Int) then some (.sl q g (i + l.toNat) (u - l).toNat) else none := rfl
theorem slcAV_sv (l u : Option Int) : slcAV l u (.sv v sz xs) = let l := l.getD 0; let u := u.getD xs.length; if 0 ≤ l ∧ l ≤ u ∧ u ≤ (xs.length : Int) then some (.sv false sz ((xs.drop l.toNat).take (u - l).toNat)) else none := rfl
theorem ext_tup : extAV i (.tup cs) = cs[i]? := rfl
theorem fld_agg : fldAV o b sz (.agg cs) = loadCells' b sz (cs.drop o) := rfl
theorem int_int : intAV (.int k n) = some n := rfl
theorem pick_bool : pickAV v (.bool b) (.bool c) = .bool (if v then b else c) := rfl
theorem pick_int (k' : IntKind) : pickAV v (.int k n) (.int k' m) = if v then .int k n else .int k' m := rfl
theorem pick_tupb : pickAV false (.tup cs) (.bool b) = .bool b := rfl
theorem pick_btup : pickAV true (.bool b) (.tup cs) = .bool b := rfl
theorem bin_add : binAV .add (.int k n) (.int k m) = some (.int k (k.wrap (n + m))) := by simp [binAV]
theorem bin_sub : binAV .sub (.int k n) (.int k m) = some (.int k (k.wrap (n - m))) := by simp [binAV]
theorem bin_mul : binAV .mul (.int k n) (.int k m) = some (.int k (k.wrap (n * m))) := by simp [binAV]
theorem bin_quo : binAV .quo (.int k n) (.int k m) = if m = 0 then none else some (.int k (k.wrap (n.tdiv m))) := by simp [binAV]
theorem bin_rem : binAV .rem (.int k n) (.int k m) = if m = 0 then none else some (.int k (n.tmod m)) := by simp [binAV]
theorem bin_eql : binAV .eql (.int k n) (.int k m) = some (.bool (n == m)) := by simp [binAV]
theorem bin_neq : binAV .neq (.int k n) (.int k m) = some (.bool (n != m)) := by simp [binAV]
theorem bin_lss : binAV .lss (.int k n) (.int k m) = some (.bool (decide (n < m))) := by simp [binAV]
theorem bin_leq : binAV .leq (.int k n) (.int k m) = some (.bool (decide (n ≤ m))) := by simp [binAV]
theorem bin_gtr : binAV .gtr (.int k n) (.int k m) = some (.bool (decide (m < n))) := by simp [binAV]
theorem bin_geq : binAV .geq (.int k n) (.int k m) = some (.bool (decide (m ≤ n))) := by simp [binAV]
theorem ref_agg : (AV.agg cs).ref = [] := rfl
theorem ref_sv : (AV.sv v sz xs).ref = [] := rfl
theorem ref_rp : (AV.rp v xs).ref = [] := rfl
theorem ref_sl : (AV.sl q g i j).ref = [q] := rfl
theorem ref_ptr : (AV.ptr q g i j).ref = [q] := rfl
theorem ref_nils : (AV.nils).ref = [] := rfl
theorem eqc_i (a b : Int) : eqCell .i (.int k a) (.int k b) = some (a == b) := by simp [eqCell]
theorem eqc_b (a b : Bool) : eqCell .b (.bool a) (.bool b) = some (a == b) := rfl
theorem eqc_s (a b : ByteArray) : eqCell .s (.str a) (.str b) = some (a.toList == b.toList) := rfl
theorem cont_sl : contAV h sz (.sl q g i j) = (match h q with
    | .row _ g' _ rsz xs => if g' = g ∧ rsz = sz ∧ i + j ≤ xs.length then some ((xs.drop i).take j) else none
    | .dead => none) := rfl
theorem cont_sv : contAV h sz (.sv v rsz xs) = if rsz = sz then some xs else none := rfl
end

def eqvA (neg agg : Bool) (ks : List SK) (x y : AV) : Option Res := match agg, x, y with
    | true, .agg xs, .agg ys => (eqCells ks xs ys).map fun b => { v := .bool (if neg then !b else b) }
    | false, .bool a, .bool b => if ks = [.b] then some { v := .bool (if neg then !(a == b) else a == b) } else none
    | _, _, _ => none
theorem aopA_eqv' (neg agg : Bool) (ks : List SK) (x y : Opd) (al : List (Nat × AV)) (hl : List Blk) : aopA (.eqv neg agg ks x y) al hl = eqvA neg agg ks (evA al x) (evA al y) := aopA_eqv al hl neg agg ks x y
theorem eqvA_agg (neg : Bool) (ks : List SK) (xs ys : List AV) : eqvA neg true ks (.agg xs) (.agg ys) = (eqCells ks xs ys).map fun b => { v := .bool (if neg then !b else b) } := rfl
theorem eqvA_bool (neg a b : Bool) : eqvA neg false [.b] (.bool a) (.bool b) = some { v := .bool (if neg then !(a == b) else a == b) } := rfl
/-- What an append is given. -/
theorem appendAV_sl (h : Nat → Blk) (fr sz bs q g n : Nat) (ys : List AV) : appendAV h fr sz bs (.sl q g 0 n) ys = if ys.all AV.elem = true then (match h q with
      | .row nil g' frz rsz xs =>
        if g' = g ∧ rsz = sz ∧ n ≤ xs.length ∧ (frz = false ∨ n = xs.length) ∧ (n + ys.length) * bs ≤ appBound then
          some { v := .sl q (g + 1) 0 (n + ys.length), ups := [(q, .row (nil && ys.isEmpty) (g + 1) frz sz (xs.take n ++ ys))] }
        else none
      | .dead => none) else none := rfl
theorem appendAV_nils (h : Nat → Blk) (fr sz bs : Nat) (ys : List AV) : appendAV h fr sz bs .nils ys = if ys.all AV.elem = true then (if ys.length * bs ≤ appBound then some { v := .sl fr 0 0 ys.length, ups := [(fr, .row ys.isEmpty 0 false sz ys)] } else none) else none := rfl
theorem appendAV_sv (h : Nat → Blk) (fr sz bs rsz : Nat) (xs ys : List AV) : appendAV h fr sz bs (.sv true rsz xs) ys = if ys.all AV.elem = true then (if rsz = sz ∧ ys.isEmpty = false ∧ (xs.length + ys.length) * bs ≤ appBound then some { v := .sl fr 0 0 (xs.length + ys.length), ups := [(fr, .row false 0 false sz (xs ++ ys))] } else none) else none := rfl
end Go.Am
end
section
set_option linter.defProp false
namespace Go.Am
open Go

def dr0 := And.intro @aopA_mv (And.intro @aopA_smv (And.intro @aopA_newnil (And.intro @aopA_pick (And.intro @aopA_alloc (And.intro @aopA_box (And.intro @aopA_build (And.intro @aopA_bsl (And.intro @aopA_load (And.intro @aopA_store (And.intro @aopA_nchk (And.intro @aopA_bin (And.intro @aopA_neg (And.intro @aopA_not (And.intro @aopA_conv (And.intro @aopA_ext (And.intro @aopA_faddr (And.intro @aopA_fld (And.intro @aopA_iaddr (And.intro @aopA_iaddrA (And.intro @aopA_idxA (And.intro @aopA_slc (And.intro @aopA_mks (And.intro @aopA_mkf (And.intro @aopA_len (And.intro @aopA_lenS (And.intro @aopA_lenC (And.intro @aopA_append (And.intro @aopA_mx (And.intro @aopA_mn (And.intro @evA_t (And.intro @evA_c (And.intro @List.length_cons.{0} (And.intro @List.length_nil.{0} (And.intro @List.nil_append.{0} (And.intro @List.cons_append.{0} (And.intro @List.append_nil.{0} (And.intro @List.reverse_cons.{0} (And.intro @List.reverse_nil.{0} (And.intro @List.getElem?_cons_zero.{0} (And.intro @List.getElem?_cons_succ.{0} (And.intro @List.getElem?_nil.{0} (And.intro @Nat.zero_add (And.intro @Nat.add_zero (And.intro @Bool.and_true (And.intro @Nat.lt_irrefl (And.intro @and_self (And.intro @Nat.le_refl (And.intro @true_and (And.intro @and_true (And.intro @Nat.zero_le (And.intro @Nat.lt_add_one (And.intro @aopA_idxS (And.intro @aopA_slcM (And.intro @aopA_clear (And.intro @ge_iff_le.{0} (And.intro @gt_iff_lt.{0} (And.intro @decide_true (And.intro @decide_false (And.intro @Bool.not_true (And.intro @Bool.not_false (And.intro @Bool.true_eq_false (And.intro @Bool.false_eq_true (And.intro @X_end (And.intro @X_mv (And.intro @X_smv (And.intro @X_newnil (And.intro @X_pick (And.intro @X_alloc (@X_box)))))))))))))))))))))))))))))))))))))))))))))))))))))))))))))))))))))
def dr1 := And.intro @X_build (And.intro @X_bsl (And.intro @X_load (And.intro @X_store (And.intro @X_nchk (And.intro @X_bin (And.intro @X_eqv (And.intro @X_neg (And.intro @X_not (And.intro @X_conv (And.intro @X_ext (And.intro @X_faddr (And.intro @X_fld (And.intro @X_iaddr (And.intro @X_iaddrA (And.intro @X_idxA (And.intro @X_slc (And.intro @X_mks (And.intro @X_mkf (And.intro @X_len (And.intro @X_lenS (And.intro @X_lenC (And.intro @X_append (And.intro @X_mx (And.intro @X_mn (And.intro @afterX_some (And.intro @X_g (And.intro @gX_tt (And.intro @gX_ff (And.intro @gX_tf (And.intro @gX_ft (And.intro @gX_no (And.intro @X_idxS (And.intro @X_slcM (And.intro @X_clear (And.intro @X_cl (And.intro @cells_agg (And.intro @cells_tup (And.intro @cells_int (And.intro @cells_bool (And.intro @cells_str (And.intro @cells_nilp (And.intro @cells_nilf (And.intro @cells_nili (And.intro @cells_nils (And.intro @cells_sv (And.intro @cells_sl (And.intro @cells_ptr (And.intro @cells_rp (And.intro @cells_clo (And.intro @one_int (And.intro @one_bool (And.intro @one_str (And.intro @one_nilp (And.intro @one_nilf (And.intro @one_nili (And.intro @one_nils (And.intro @one_sv (And.intro @one_sl (And.intro @one_ptr (And.intro @one_rp (And.intro @one_clo (And.intro @elem_agg (And.intro @elem_int (And.intro @elem_bool (And.intro @elem_str (And.intro @elem_nilp (And.intro @elem_nilf (And.intro @elem_nili (@elem_nils)))))))))))))))))))))))))))))))))))))))))))))))))))))))))))))))))))))
def dr2 := And.intro @elem_sv (And.intro @elem_sl (And.intro @elem_ptr (And.intro @elem_rp (And.intro @elem_clo (And.intro @lenAV_sl (And.intro @lenAV_sv (And.intro @lenAV_nils (And.intro @ia_sl (And.intro @ia_sv (And.intro @ld_ptr (And.intro @ld_rp (And.intro @st_ptr (And.intro @fa_ptr (And.intro @fa_rp (And.intro @put_agg (And.intro @put_int (And.intro @put_bool (And.intro @put_str (And.intro @put_nilp (And.intro @put_nilf (And.intro @put_nils (And.intro @put_sl (And.intro @put_sv (And.intro @put_ptr (And.intro @put_rp (And.intro @put_clo (And.intro @slc_sl (And.intro @slc_sv (And.intro @slcAV_sl (And.intro @slcAV_sv (And.intro @ext_tup (And.intro @fld_agg (And.intro @int_int (And.intro @pick_bool (And.intro @pick_int (And.intro @pick_tupb (And.intro @pick_btup (And.intro @bin_add (And.intro @bin_sub (And.intro @bin_mul (And.intro @bin_quo (And.intro @bin_rem (And.intro @bin_eql (And.intro @bin_neq (And.intro @bin_lss (And.intro @bin_leq (And.intro @bin_gtr (And.intro @bin_geq (And.intro @ref_agg (And.intro @ref_sv (And.intro @ref_rp (And.intro @ref_sl (And.intro @ref_ptr (And.intro @ref_nils (And.intro @eqc_i (And.intro @eqc_b (And.intro @eqc_s (And.intro @cont_sl (And.intro @cont_sv (And.intro @aopA_eqv' (And.intro @eqvA_agg (And.intro @eqvA_bool (And.intro @appendAV_sl (And.intro @appendAV_nils (@appendAV_sv)))))))))))))))))))))))))))))))))))))))))))))))))))))))))))))))))
end Go.Am
end
section
set_option linter.unusedSimpArgs false
set_option linter.unusedVariables false
set_option maxHeartbeats 4000000
namespace Go.Hull
open Go Go.Am Go.Proofs

theorem viewG_ixT {hl : List Blk} {b g k : Nat} {nil frz : Bool} {xs v : List Nat} (hb : hget hl b = .row nil g frz 1 (ix xs)) (hv : xs.take k = v) (h : k ≤ xs.length) : viewG hl 6 (.sl b g 0 k) = some (ixV v, [b]) := by
  have := viewG_ix (i := 0) (k := k) hb (by omega)
  rw [List.drop_zero, hv] at this
  exact this
theorem viewG_ptsL {hl : List Blk} {b g k : Nat} {nil frz : Bool} {xs : List Pt} (hb : hget hl b = .row nil g frz 2 (xs.map pt)) (h : k = xs.length) : viewG hl 6 (.sl b g 0 k) = some (pts xs, [b]) := by
  have := viewG_pts (i := 0) (k := k) hb (by omega)
  rw [List.drop_zero, List.take_of_length_le (by omega)] at this
  exact this
theorem ltL_append (m : Nat) (a b : List AV) : ltL m (a ++ b) = (ltL m a && ltL m b) := by
  induction a with
  | nil => rfl
  | cons x a ih => simp only [List.cons_append, ltL, ih, Bool.and_assoc]
theorem len_pts (l : List Pt) : lenAV (pts l) = some (.int .i64 (l.length : Int)) := by simp [pts, lenAV]
theorem ia_pts (h : Nat → Blk) (l : List Pt) (k : Int) (hk : 0 ≤ k ∧ k < (l.length : Int)) : iaddrAV h 2 k (pts l) = some (.rp false [.int .i64 (P l k.toNat).1, .int .i64 (P l k.toNat).2]) := by
  have h1 : k.toNat < l.length := by omega
  simp only [pts, iaddrAV, List.length_map, true_and, if_pos hk, get_pts (getp h1), Option.map_some, AV.cells, pt, P]
theorem cells_pt (p : Pt) : (pt p).cells = [.int .i64 p.1, .int .i64 p.2] := rfl
theorem ref_pts (l : List Pt) : (pts l).ref = [] := rfl
theorem ref_pt (p : Pt) : (pt p).ref = [] := rfl
theorem ref_ixV (v : List Nat) : (ixV v).ref = [] := rfl
theorem cont_ixV (h : Nat → Blk) (v : List Nat) : contAV h 1 (ixV v) = some (ix v) := rfl
theorem cont_pts (h : Nat → Blk) (l : List Pt) : contAV h 2 (pts l) = some (l.map pt) := rfl
theorem eqvA_pt (neg : Bool) (p q : Pt) : eqvA neg true [.i, .i] (pt p) (pt q) = some { v := .bool (if neg then !(decide (p = q)) else decide (p = q)) } := by
  have h : (p.1 == q.1 && (p.2 == q.2 && true)) = decide (p = q) := by
    obtain ⟨a, b⟩ := p
    obtain ⟨c, d⟩ := q
    simp [Prod.mk.injEq, ← Bool.decide_and]
    by_cases h1 : a = c <;> by_cases h2 : b = d <;> simp [h1, h2]
  simp only [eqvA, pt, eqCells, eqCell, if_true, Option.map_some]
  rw [h]
theorem put_pt (p : Pt) (a b : Int) : (pt p).putCells 0 [.int .i64 a, .int .i64 b] = pt (a, b) := rfl
theorem put_pt0 (p : Pt) (a : Int) : (pt p).putCells 0 [.int .i64 a] = pt (a, p.2) := rfl
theorem put_pt1 (p : Pt) (a : Int) : (pt p).putCells 1 [.int .i64 a] = pt (p.1, a) := rfl
theorem elem_pt (p : Pt) : (pt p).elem = true := rfl
theorem pair_eta (p : Pt) : (p.1, p.2) = p := rfl
theorem fold_pt2 (a b : Int) : AV.agg [.int .i64 a, .int .i64 b] = pt (a, b) := rfl
theorem len_ixV (v : List Nat) : lenAV (ixV v) = some (.int .i64 (v.length : Int)) := by simp [ixV, lenAV, ix_length]
theorem ia_ixV (h : Nat → Blk) (v : List Nat) (k : Int) (hk : 0 ≤ k ∧ k < (v.length : Int)) : iaddrAV h 1 k (ixV v) = some (.rp false [.int .i64 ((v.getD k.toNat 0 : Nat) : Int)]) := by
  have h1 : k.toNat < v.length := by omega
  simp only [ixV, iaddrAV, ix_length, true_and, if_pos hk, ix_get v h1, Option.map_some, AV.cells, pt, P]
theorem ixg (v : List Nat) (k : Nat) (h : k < v.length) : (ix v)[k]? = some (.int .i64 ((v.getD k 0 : Nat) : Int)) := ix_get v h
theorem ptsg (l : List Pt) (k : Nat) (h : k < l.length) : (l.map pt)[k]? = some (pt (P l k)) := get_pts (getp h)
theorem one_ix (n : Nat) : AV.one (.int .i64 (n : Int)) = true := rfl
theorem ix_snoc (xs : List Nat) (n : Nat) : ix xs ++ [AV.int .i64 (n : Int)] = ix (xs ++ [n]) := by simp [ix]
theorem pts_snoc (l : List Pt) (p : Pt) : l.map pt ++ [pt p] = (l ++ [p]).map pt := by simp
theorem slc_ixV (h : List Blk) (v : List Nat) (a : Nat) (ha : a ≤ v.length) : slcA h 1 (some (a : Int)) none (ixV v) = some ⟨ixV (v.drop a), []⟩ := by
  simp only [slcA, ixV, slcAV, if_true, Option.getD_some, Option.getD_none, ix_length]
  rw [if_pos (by omega)]
  simp only [Option.map_some, Int.toNat_natCast, ix_drop, ix_take]
  rw [List.take_of_length_le (by simp)]
theorem slc_pts (h : List Blk) (v : List Pt) (a : Nat) (ha : a ≤ v.length) : slcA h 2 (some (a : Int)) none (pts v) = some ⟨pts (v.drop a), []⟩ := by
  simp only [slcA, pts, slcAV, if_true, Option.getD_some, Option.getD_none, List.length_map]
  rw [if_pos (by omega)]
  simp only [Option.map_some, Int.toNat_natCast]
  rw [← List.map_drop, List.take_of_length_le (by simp; try omega)]
theorem x_around0 : CallsF Try.prog 51 [pts []] [] (.sl 0 0 0 0) [.row false 0 false 1 []] := xFm_sound hm tOk Aw.ok0 20 _ _ _ _ _ (by kernel_rfl : xFm Aw.nm T Aw.ms0 1000 20 51 [.sv false 2 []] [] = some (.sl 0 0 0 0, [.row false 0 false 1 []]))
theorem hullI_nil : hullI [] = [] := rfl
theorem hull_mem {l : List Pt} : ∀ x ∈ hullI l, x < l.length := by
  by_cases hl : 0 < l.length
  · exact (hullT l hl).mem
  · obtain rfl : l = [] := List.eq_nil_of_length_eq_zero (by omega)
    intro x hx; rw [hullI_nil] at hx; cases hx
theorem hull_le {l : List Pt} : (hullI l).length ≤ l.length := by
  by_cases hl : 0 < l.length
  · exact (hullT l hl).le
  · obtain rfl : l = [] := List.eq_nil_of_length_eq_zero (by omega)
    exact Nat.le_refl _
/-- The vertices, and what lies behind them in memory. -/
theorem c51' (l : List Pt) (hn : l.length < 20) (hok : l.all okP = true) :
    ∃ (zs : List Nat), zs.take (hullI l).length = hullI l ∧ (hullI l).length ≤ zs.length ∧ CallsF Try.prog 51 [pts l] [] (.sl 0 0 0 (hullI l).length) [.row false 0 false 1 (ix zs)] := by
  by_cases hl : 0 < l.length
  · exact c51 l hl hn hok
  · obtain rfl : l = [] := List.eq_nil_of_length_eq_zero (by omega)
    exact ⟨[], rfl, Nat.le_refl _, x_around0⟩
theorem chk_ok {l : List Pt} (h : chk l = 0) : l.all okP = true := by
  unfold chk at h
  split at h
  · cases h
  · by_cases h' : l.all okP = true
    · exact h'
    · rw [if_neg h'] at h; cases h
theorem ok_P {l : List Pt} (h : l.all okP = true) : ∀ k, k < l.length → okP (P l k) = true := fun k hk => all_ok h hk
theorem ren_row_ix (σ : Nat → Nat) (n f : Bool) (g s : Nat) (zs : List Nat) : (Blk.row n g f s (ix zs)).ren σ = .row n g f s (ix zs) := by simp only [Blk.ren, renL_id (ix zs) (ltL_ix _ _)]
theorem clean_ix (n f : Bool) (g s : Nat) (zs : List Nat) : (Blk.row n g f s (ix zs)).clean = true := by simp only [Blk.clean, cleanL_ix]
theorem allUp {A : Nat → Prop} {i : Nat} (h : ∀ j, j < i → A j) (hi : A i) : ∀ j, j < i + 1 → A j := fun j hj => by
  by_cases e : j = i
  · rw [e]; exact hi
  · exact h j (by omega)
def convI (l : List Pt) : Bool := decide ((hullI l).length = l.length ∧ 3 ≤ (hullI l).length ∧ ∀ i, i < (hullI l).length → (hullI l).getD ((i + 1) % (hullI l).length) 0 = ((hullI l).getD i 0 + 1) % (hullI l).length)
def convR (l : List Pt) : Bool × Int := if chk l ≠ 0 then (false, chk l) else (convI l, 0)
theorem c40 (l : List Pt) (hn : l.length < 4611686018427387904) (h20 : chk l = 0 → l.length < 20) : CallsF Try.prog 40 [pts l] [] (.tup [.bool (convR l).1, .int .i64 (convR l).2]) [] := by
  by_cases hc : chk l = 0
  · obtain ⟨zs, z1, z2, z3⟩ := c51' l (h20 hc) (chk_ok hc)
    have h20' := h20 hc
    have hr : convR l = (convI l, 0) := by unfold convR; rw [if_neg (by simp [hc])]
    rw [hr]
    have k50 := c50 l hn
    rw [hc] at k50
    obtain ⟨v, hv⟩ : ∃ v, v = hullI l := ⟨_, rfl⟩
    obtain ⟨n, hnv⟩ : ∃ n, n = v.length := ⟨_, rfl⟩
    have hle := hull_le (l := l)
    have hci : convI l = decide (n = l.length ∧ 3 ≤ n ∧ ∀ i, i < n → v.getD ((i + 1) % n) 0 = (v.getD i 0 + 1) % n) := by unfold convI; rw [← hv, ← hnv]
    rw [← hv] at z1 z2 z3 hle
    rw [← hnv] at z1 z2 z3 hle
    have zv : ∀ k, k < n → zs.getD k 0 = v.getD k 0 := fun k hk => take_getD' z1 hk
    have vm : ∀ k, k < n → v.getD k 0 < l.length := fun k hk => getD_lt (by rw [hv]; exact hull_mem) (by omega)
    refine callsF_cwx hm hf40 (by simp [cf40]) ?_
    simp only [cf40, argsAl]
    repeat' first
      | (refine hK _ _ _ (by first | exact fun h => Bool.noConfusion h | exact fun _ => rfl) ?_; clear hK K)
      | (refine CWx.r fun K hK => ?_; simp (maxSteps := 4000000) (disch := omega) only [dr0, dr1, dr2, evsA, evpA, elemsA, elemsP, sizedA, optA, refA, consO, Am.get, hsetL, hset, hget, rowAt?, loadCells', fillA, List.foldl, List.all, List.map, List.set, List.take, List.drop, Option.getD, Option.map, if_true, if_false, Nat.reduceEqDiff, Nat.reduceAdd, Nat.reduceMul, Nat.reduceLT, Nat.reduceLeDiff, reduceCtorEq, ↓reduceIte, eqCells, foldAV, Option.some.injEq, catT, put_pt, put_pt0, put_pt1, ref_pts, ref_pt, ref_ixV, eqvA_pt, cont_ixV, cont_pts, len_pts, ia_pts, cells_pt, elem_pt, fold_pt2, pair_eta, len_ixV, ia_ixV, ix_length, ix_append, ix_take, ix_drop, wr62, natAdd1, natAddN, natSub1, natSubN, tmodN, tdivN, toNat_cast, Int.toNat_zero, Int.natCast_nonneg, ixg, ptsg, appB, if_pos, if_neg, List.isEmpty, Bool.or_self, Bool.false_or, Bool.or_false, or_true, true_or, Bool.false_and, not_true_eq_false, not_false_eq_true, one_ix, gX_tt, gX_ff, gX_tf, gX_ft, beq_self_eq_true, all_ix, ix_snoc, pts_snoc, bne_self_eq_false, ← List.map_take, ← List.map_drop, List.take_take, Nat.min_self, List.length_map, List.length_take,  slc_ixV, slc_pts, zv, AV.ren, ren_row_ix])
      | refine CWx.go ?_
      | (refine RCx.view (fid := 50) (caps := []) rfl rfl (by (simp only [evsA, evA_t, evA_c, Am.get, Nat.reduceEqDiff, ↓reduceIte, List.nil_append, List.cons_append, List.append_nil]; repeat' first | exact viewArgs_nil | apply viewArgs_cons | exact viewG_flat (flat_pts _ _) _ | exact viewG_flat (flat_ixV _ _) _ | exact viewG_ixT rfl (by assumption) (by omega) | exact viewG_ptsL rfl (by first | omega | (simp; done) | (simp; omega)) | exact viewG_ix rfl (by first | omega | (simp; omega)) | exact viewG_flat rfl _; done)) (k50) rfl ?_; simp (maxSteps := 4000000) (disch := omega) only [dr0, dr1, dr2, evsA, evpA, elemsA, elemsP, sizedA, optA, refA, consO, Am.get, hsetL, hset, hget, rowAt?, loadCells', fillA, List.foldl, List.all, List.map, List.set, List.take, List.drop, Option.getD, Option.map, if_true, if_false, Nat.reduceEqDiff, Nat.reduceAdd, Nat.reduceMul, Nat.reduceLT, Nat.reduceLeDiff, reduceCtorEq, ↓reduceIte, eqCells, foldAV, Option.some.injEq, catT, put_pt, put_pt0, put_pt1, ref_pts, ref_pt, ref_ixV, eqvA_pt, cont_ixV, cont_pts, len_pts, ia_pts, cells_pt, elem_pt, fold_pt2, pair_eta, len_ixV, ia_ixV, ix_length, ix_append, ix_take, ix_drop, wr62, natAdd1, natAddN, natSub1, natSubN, tmodN, tdivN, toNat_cast, Int.toNat_zero, Int.natCast_nonneg, ixg, ptsg, appB, if_pos, if_neg, List.isEmpty, Bool.or_self, Bool.false_or, Bool.or_false, or_true, true_or, Bool.false_and, not_true_eq_false, not_false_eq_true, one_ix, gX_tt, gX_ff, gX_tf, gX_ft, beq_self_eq_true, all_ix, ix_snoc, pts_snoc, bne_self_eq_false, ← List.map_take, ← List.map_drop, List.take_take, Nat.min_self, List.length_map, List.length_take,  slc_ixV, slc_pts, zv, AV.ren, ren_row_ix])
      | (refine RCx.viewR (fid := 51) (caps := []) rfl rfl (viewArgs_flat1 (flat_pts l 2)) z3 (by simp [AV.clean, clean_ix]) ?_; simp (maxSteps := 4000000) (disch := omega) only [dr0, dr1, dr2, evsA, evpA, elemsA, elemsP, sizedA, optA, refA, consO, Am.get, hsetL, hset, hget, rowAt?, loadCells', fillA, List.foldl, List.all, List.map, List.set, List.take, List.drop, Option.getD, Option.map, if_true, if_false, Nat.reduceEqDiff, Nat.reduceAdd, Nat.reduceMul, Nat.reduceLT, Nat.reduceLeDiff, reduceCtorEq, ↓reduceIte, eqCells, foldAV, Option.some.injEq, catT, put_pt, put_pt0, put_pt1, ref_pts, ref_pt, ref_ixV, eqvA_pt, cont_ixV, cont_pts, len_pts, ia_pts, cells_pt, elem_pt, fold_pt2, pair_eta, len_ixV, ia_ixV, ix_length, ix_append, ix_take, ix_drop, wr62, natAdd1, natAddN, natSub1, natSubN, tmodN, tdivN, toNat_cast, Int.toNat_zero, Int.natCast_nonneg, ixg, ptsg, appB, if_pos, if_neg, List.isEmpty, Bool.or_self, Bool.false_or, Bool.or_false, or_true, true_or, Bool.false_and, not_true_eq_false, not_false_eq_true, one_ix, gX_tt, gX_ff, gX_tf, gX_ft, beq_self_eq_true, all_ix, ix_snoc, pts_snoc, bne_self_eq_false, ← List.map_take, ← List.map_drop, List.take_take, Nat.min_self, List.length_map, List.length_take,  slc_ixV, slc_pts, zv, AV.ren, ren_row_ix])
      | (refine gX_split (fun hb => ?_) (fun hb => ?_) <;> (try simp only [hb]) <;> (try simp only [decide_eq_true_eq, decide_eq_false_iff_not, beq_iff_eq, bne_iff_ne, ne_eq, Bool.not_eq_true, Bool.not_eq_false, beq_eq_false_iff_ne, bne_eq_false_iff_eq, Decidable.not_not, Bool.not_eq_eq_eq_not, Bool.not_true, Bool.not_false, Bool.true_eq_false, Bool.false_eq_true, Int.not_lt, Int.not_le, Bool.and_eq_true, Bool.and_eq_false_iff, Bool.or_eq_true, Bool.or_eq_false_iff, reduceCtorEq] at hb) <;> simp (maxSteps := 4000000) (disch := omega) only [dr0, dr1, dr2, evsA, evpA, elemsA, elemsP, sizedA, optA, refA, consO, Am.get, hsetL, hset, hget, rowAt?, loadCells', fillA, List.foldl, List.all, List.map, List.set, List.take, List.drop, Option.getD, Option.map, if_true, if_false, Nat.reduceEqDiff, Nat.reduceAdd, Nat.reduceMul, Nat.reduceLT, Nat.reduceLeDiff, reduceCtorEq, ↓reduceIte, eqCells, foldAV, Option.some.injEq, catT, put_pt, put_pt0, put_pt1, ref_pts, ref_pt, ref_ixV, eqvA_pt, cont_ixV, cont_pts, len_pts, ia_pts, cells_pt, elem_pt, fold_pt2, pair_eta, len_ixV, ia_ixV, ix_length, ix_append, ix_take, ix_drop, wr62, natAdd1, natAddN, natSub1, natSubN, tmodN, tdivN, toNat_cast, Int.toNat_zero, Int.natCast_nonneg, ixg, ptsg, appB, if_pos, if_neg, List.isEmpty, Bool.or_self, Bool.false_or, Bool.or_false, or_true, true_or, Bool.false_and, not_true_eq_false, not_false_eq_true, one_ix, gX_tt, gX_ff, gX_tf, gX_ft, beq_self_eq_true, all_ix, ix_snoc, pts_snoc, bne_self_eq_false, ← List.map_take, ← List.map_drop, List.take_take, Nat.min_self, List.length_map, List.length_take,  slc_ixV, slc_pts, zv, AV.ren, ren_row_ix])
      | (refine CWx.br rfl (fun hb => ?_) (fun hb => ?_) <;> first | exact Bool.noConfusion hb | (first | (simp only [decide_eq_true_eq, decide_eq_false_iff_not, beq_iff_eq, bne_iff_ne, ne_eq, Bool.not_eq_true, Bool.not_eq_false, beq_eq_false_iff_ne, bne_eq_false_iff_eq, Decidable.not_not, Bool.not_eq_eq_eq_not, Bool.not_true, Bool.not_false, Bool.true_eq_false, Bool.false_eq_true, Int.not_lt, Int.not_le, Bool.and_eq_true, Bool.and_eq_false_iff, Bool.or_eq_true, Bool.or_eq_false_iff, reduceCtorEq] at hb; done) | ((try simp only [decide_eq_true_eq, decide_eq_false_iff_not, beq_iff_eq, bne_iff_ne, ne_eq, Bool.not_eq_true, Bool.not_eq_false, beq_eq_false_iff_ne, bne_eq_false_iff_eq, Decidable.not_not, Bool.not_eq_eq_eq_not, Bool.not_true, Bool.not_false, Bool.true_eq_false, Bool.false_eq_true, Int.not_lt, Int.not_le, Bool.and_eq_true, Bool.and_eq_false_iff, Bool.or_eq_true, Bool.or_eq_false_iff, reduceCtorEq] at hb); first | contradiction | skip)))
      | (refine CWx.e fun K hK => ?_; simp (maxSteps := 4000000) (disch := omega) only [dr0, dr1, dr2, evsA, evpA, elemsA, elemsP, sizedA, optA, refA, consO, Am.get, hsetL, hset, hget, rowAt?, loadCells', fillA, List.foldl, List.all, List.map, List.set, List.take, List.drop, Option.getD, Option.map, if_true, if_false, Nat.reduceEqDiff, Nat.reduceAdd, Nat.reduceMul, Nat.reduceLT, Nat.reduceLeDiff, reduceCtorEq, ↓reduceIte, eqCells, foldAV, Option.some.injEq, catT, put_pt, put_pt0, put_pt1, ref_pts, ref_pt, ref_ixV, eqvA_pt, cont_ixV, cont_pts, len_pts, ia_pts, cells_pt, elem_pt, fold_pt2, pair_eta, len_ixV, ia_ixV, ix_length, ix_append, ix_take, ix_drop, wr62, natAdd1, natAddN, natSub1, natSubN, tmodN, tdivN, toNat_cast, Int.toNat_zero, Int.natCast_nonneg, ixg, ptsg, appB, if_pos, if_neg, List.isEmpty, Bool.or_self, Bool.false_or, Bool.or_false, or_true, true_or, Bool.false_and, not_true_eq_false, not_false_eq_true, one_ix, gX_tt, gX_ff, gX_tf, gX_ft, beq_self_eq_true, all_ix, ix_snoc, pts_snoc, bne_self_eq_false, ← List.map_take, ← List.map_drop, List.take_take, Nat.min_self, List.length_map, List.length_take,  slc_ixV, slc_pts, zv, AV.ren, ren_row_ix])
      | (refine CWx.block (id := 0) ?_; refine CWx.loopK (ι := Nat) [5, 25, 26] (fun i => n - i) (fun i => [(27, .int .i64 (i : Int))]) (fun i => [.row false 0 false 1 (ix zs)]) (fun i => i ≤ n ∧ ∀ j, j < i → v.getD ((j + 1) % n) 0 = (v.getD j 0 + 1) % n) (fun i => by simp only [keepA, Am.get, List.cons_append, List.nil_append, Nat.reduceEqDiff, ↓reduceIte]; exact rfl) (0) ?_ ?_ (fun i hi => ?_); (focus (first | trivial | omega | (refine ⟨?_, ?_⟩ <;> first | omega | trivial | simp_all) | simp_all)); (focus (refine Fgt.mk' 1 (by simp) ?_ ?_ ?_ <;> simp [-List.map_take, -List.map_map, ltL_append, keepB, Am.get, AV.lt, ltL, lt_pts, lt_pt, lt_ixV, ltL_ix, ltL_pt, Blk.lt, ltB])); ((have hmod := Nat.mod_lt (i + 1) (show 0 < n by omega); have hvm := vm i)))
      | refine CWx.seq ?_
      | refine CWx.block ?_
      | refine CWx.skip ?_
      | refine CWx.exit ?_
      | (refine CWx.ret fun al hal => finK_ext hal (finK_pure (.inr rfl) (by simp only [resRV, Am.get, Nat.reduceEqDiff, ↓reduceIte]; exact rfl) ?_ (by first | rfl | simp [AV.allR, allRL])); first | ((simp only [tupAV]; rw [hci, decide_eq_true (show _ ∧ _ ∧ _ from ⟨by omega, by omega, fun i hi' => hi.2 i (by omega)⟩)]); done) | ((simp only [tupAV]; rw [hci, decide_eq_false (fun h => absurd (h.2.2 i (by omega)) (by omega))]); done) | ((simp only [tupAV]; rw [hci, decide_eq_false (fun h => by omega)]); done) | (rfl; done) | ((simp only [tupAV]; congr <;> omega); done) | (simp [tupAV, *]; done))
      | (intro al hal; refine ⟨i + 1, ?_, ?_, Fgt.ofx hal ?_⟩; (focus (first | omega | (dsimp only; omega))); (focus (exact ⟨by omega, allUp hi.2 (by omega)⟩; done)); (focus (refine Fgt.mk' 1 (by simp) ?_ ?_ ?_ <;> simp [-List.map_take, -List.map_map, ltL_append, keepB, Am.get, AV.lt, ltL, lt_pts, lt_pt, lt_ixV, ltL_ix, ltL_pt, Blk.lt, ltB]; done)))
  · have hr : convR l = (false, chk l) := by unfold convR; rw [if_pos hc]
    rw [hr]
    refine callsF_cwx hm hf40 (by simp [cf40]) ?_
    simp only [cf40, argsAl]
    repeat' first
      | (refine hK _ _ _ (by first | exact fun h => Bool.noConfusion h | exact fun _ => rfl) ?_; clear hK K)
      | (refine CWx.r fun K hK => ?_; simp (maxSteps := 4000000) (disch := omega) only [dr0, dr1, dr2, evsA, evpA, elemsA, elemsP, sizedA, optA, refA, consO, Am.get, hsetL, hset, hget, rowAt?, loadCells', fillA, List.foldl, List.all, List.map, List.set, List.take, List.drop, Option.getD, Option.map, if_true, if_false, Nat.reduceEqDiff, Nat.reduceAdd, Nat.reduceMul, Nat.reduceLT, Nat.reduceLeDiff, reduceCtorEq, ↓reduceIte, eqCells, foldAV, Option.some.injEq, catT, put_pt, put_pt0, put_pt1, ref_pts, ref_pt, ref_ixV, eqvA_pt, cont_ixV, cont_pts, len_pts, ia_pts, cells_pt, elem_pt, fold_pt2, pair_eta, len_ixV, ia_ixV, ix_length, ix_append, ix_take, ix_drop, wr62, natAdd1, natAddN, natSub1, natSubN, tmodN, tdivN, toNat_cast, Int.toNat_zero, Int.natCast_nonneg, ixg, ptsg, appB, if_pos, if_neg, List.isEmpty, Bool.or_self, Bool.false_or, Bool.or_false, or_true, true_or, Bool.false_and, not_true_eq_false, not_false_eq_true, one_ix, gX_tt, gX_ff, gX_tf, gX_ft, beq_self_eq_true, all_ix, ix_snoc, pts_snoc, bne_self_eq_false, ← List.map_take, ← List.map_drop, List.take_take, Nat.min_self, List.length_map, List.length_take,  slc_ixV, slc_pts])
      | refine CWx.go ?_
      | (refine RCx.view (fid := 50) (caps := []) rfl rfl (by (simp only [evsA, evA_t, evA_c, Am.get, Nat.reduceEqDiff, ↓reduceIte, List.nil_append, List.cons_append, List.append_nil]; repeat' first | exact viewArgs_nil | apply viewArgs_cons | exact viewG_flat (flat_pts _ _) _ | exact viewG_flat (flat_ixV _ _) _ | exact viewG_ixT rfl (by assumption) (by omega) | exact viewG_ptsL rfl (by first | omega | (simp; done) | (simp; omega)) | exact viewG_ix rfl (by first | omega | (simp; omega)) | exact viewG_flat rfl _; done)) (c50 l hn) rfl ?_; simp (maxSteps := 4000000) (disch := omega) only [dr0, dr1, dr2, evsA, evpA, elemsA, elemsP, sizedA, optA, refA, consO, Am.get, hsetL, hset, hget, rowAt?, loadCells', fillA, List.foldl, List.all, List.map, List.set, List.take, List.drop, Option.getD, Option.map, if_true, if_false, Nat.reduceEqDiff, Nat.reduceAdd, Nat.reduceMul, Nat.reduceLT, Nat.reduceLeDiff, reduceCtorEq, ↓reduceIte, eqCells, foldAV, Option.some.injEq, catT, put_pt, put_pt0, put_pt1, ref_pts, ref_pt, ref_ixV, eqvA_pt, cont_ixV, cont_pts, len_pts, ia_pts, cells_pt, elem_pt, fold_pt2, pair_eta, len_ixV, ia_ixV, ix_length, ix_append, ix_take, ix_drop, wr62, natAdd1, natAddN, natSub1, natSubN, tmodN, tdivN, toNat_cast, Int.toNat_zero, Int.natCast_nonneg, ixg, ptsg, appB, if_pos, if_neg, List.isEmpty, Bool.or_self, Bool.false_or, Bool.or_false, or_true, true_or, Bool.false_and, not_true_eq_false, not_false_eq_true, one_ix, gX_tt, gX_ff, gX_tf, gX_ft, beq_self_eq_true, all_ix, ix_snoc, pts_snoc, bne_self_eq_false, ← List.map_take, ← List.map_drop, List.take_take, Nat.min_self, List.length_map, List.length_take,  slc_ixV, slc_pts])
      | (refine gX_split (fun hb => ?_) (fun hb => ?_) <;> (try simp only [hb]) <;> (try simp only [decide_eq_true_eq, decide_eq_false_iff_not, beq_iff_eq, bne_iff_ne, ne_eq, Bool.not_eq_true, Bool.not_eq_false, beq_eq_false_iff_ne, bne_eq_false_iff_eq, Decidable.not_not, Bool.not_eq_eq_eq_not, Bool.not_true, Bool.not_false, Bool.true_eq_false, Bool.false_eq_true, Int.not_lt, Int.not_le, Bool.and_eq_true, Bool.and_eq_false_iff, Bool.or_eq_true, Bool.or_eq_false_iff, reduceCtorEq] at hb) <;> simp (maxSteps := 4000000) (disch := omega) only [dr0, dr1, dr2, evsA, evpA, elemsA, elemsP, sizedA, optA, refA, consO, Am.get, hsetL, hset, hget, rowAt?, loadCells', fillA, List.foldl, List.all, List.map, List.set, List.take, List.drop, Option.getD, Option.map, if_true, if_false, Nat.reduceEqDiff, Nat.reduceAdd, Nat.reduceMul, Nat.reduceLT, Nat.reduceLeDiff, reduceCtorEq, ↓reduceIte, eqCells, foldAV, Option.some.injEq, catT, put_pt, put_pt0, put_pt1, ref_pts, ref_pt, ref_ixV, eqvA_pt, cont_ixV, cont_pts, len_pts, ia_pts, cells_pt, elem_pt, fold_pt2, pair_eta, len_ixV, ia_ixV, ix_length, ix_append, ix_take, ix_drop, wr62, natAdd1, natAddN, natSub1, natSubN, tmodN, tdivN, toNat_cast, Int.toNat_zero, Int.natCast_nonneg, ixg, ptsg, appB, if_pos, if_neg, List.isEmpty, Bool.or_self, Bool.false_or, Bool.or_false, or_true, true_or, Bool.false_and, not_true_eq_false, not_false_eq_true, one_ix, gX_tt, gX_ff, gX_tf, gX_ft, beq_self_eq_true, all_ix, ix_snoc, pts_snoc, bne_self_eq_false, ← List.map_take, ← List.map_drop, List.take_take, Nat.min_self, List.length_map, List.length_take,  slc_ixV, slc_pts])
      | (refine CWx.br rfl (fun hb => ?_) (fun hb => ?_) <;> first | exact Bool.noConfusion hb | (first | (simp only [decide_eq_true_eq, decide_eq_false_iff_not, beq_iff_eq, bne_iff_ne, ne_eq, Bool.not_eq_true, Bool.not_eq_false, beq_eq_false_iff_ne, bne_eq_false_iff_eq, Decidable.not_not, Bool.not_eq_eq_eq_not, Bool.not_true, Bool.not_false, Bool.true_eq_false, Bool.false_eq_true, Int.not_lt, Int.not_le, Bool.and_eq_true, Bool.and_eq_false_iff, Bool.or_eq_true, Bool.or_eq_false_iff, reduceCtorEq] at hb; done) | ((try simp only [decide_eq_true_eq, decide_eq_false_iff_not, beq_iff_eq, bne_iff_ne, ne_eq, Bool.not_eq_true, Bool.not_eq_false, beq_eq_false_iff_ne, bne_eq_false_iff_eq, Decidable.not_not, Bool.not_eq_eq_eq_not, Bool.not_true, Bool.not_false, Bool.true_eq_false, Bool.false_eq_true, Int.not_lt, Int.not_le, Bool.and_eq_true, Bool.and_eq_false_iff, Bool.or_eq_true, Bool.or_eq_false_iff, reduceCtorEq] at hb); first | contradiction | skip)))
      | (refine CWx.e fun K hK => ?_; simp (maxSteps := 4000000) (disch := omega) only [dr0, dr1, dr2, evsA, evpA, elemsA, elemsP, sizedA, optA, refA, consO, Am.get, hsetL, hset, hget, rowAt?, loadCells', fillA, List.foldl, List.all, List.map, List.set, List.take, List.drop, Option.getD, Option.map, if_true, if_false, Nat.reduceEqDiff, Nat.reduceAdd, Nat.reduceMul, Nat.reduceLT, Nat.reduceLeDiff, reduceCtorEq, ↓reduceIte, eqCells, foldAV, Option.some.injEq, catT, put_pt, put_pt0, put_pt1, ref_pts, ref_pt, ref_ixV, eqvA_pt, cont_ixV, cont_pts, len_pts, ia_pts, cells_pt, elem_pt, fold_pt2, pair_eta, len_ixV, ia_ixV, ix_length, ix_append, ix_take, ix_drop, wr62, natAdd1, natAddN, natSub1, natSubN, tmodN, tdivN, toNat_cast, Int.toNat_zero, Int.natCast_nonneg, ixg, ptsg, appB, if_pos, if_neg, List.isEmpty, Bool.or_self, Bool.false_or, Bool.or_false, or_true, true_or, Bool.false_and, not_true_eq_false, not_false_eq_true, one_ix, gX_tt, gX_ff, gX_tf, gX_ft, beq_self_eq_true, all_ix, ix_snoc, pts_snoc, bne_self_eq_false, ← List.map_take, ← List.map_drop, List.take_take, Nat.min_self, List.length_map, List.length_take,  slc_ixV, slc_pts])
      | refine CWx.seq ?_
      | refine CWx.block ?_
      | refine CWx.skip ?_
      | refine CWx.exit ?_
      | (refine CWx.ret fun al hal => finK_ext hal (finK_pure (.inr rfl) (by simp only [resRV, Am.get, Nat.reduceEqDiff, ↓reduceIte]; exact rfl) ?_ (by first | rfl | simp [AV.allR, allRL])); first | (rfl; done) | ((simp only [tupAV]; congr <;> omega); done) | (simp [tupAV, *]; done))
end Go.Hull
end
