/- The law's function: walk.
   Conditions: the vertices answer as the law asks. -/
import Derived.Test.YtkbpkbjfphdgeaaHW12
import Derived.Test.YtkbpkbjfphdgeaaHAw
set_option linter.unusedSimpArgs false
set_option linter.unusedVariables false
set_option maxHeartbeats 4000000
namespace Go.Hull
open Go Go.Am Go.Proofs

def P (l : List Pt) (i : Nat) : Pt := l.getD i (0, 0)
structure HullT (l : List Pt) (v : List Nat) : Prop where
  ne : 0 < v.length
  le : v.length ≤ l.length
  mem : ∀ x ∈ v, x < l.length
  first : ∀ p ∈ l, before p (P l (v.getD 0 0)) = false
  big : 2 < v.length → ∀ i, i < v.length → ∀ p ∈ l, 0 ≤ left (P l (v.getD i 0)) (P l (v.getD ((i + 1) % v.length) 0)) p
  turns : 2 < v.length → ∀ i, i < v.length → 0 < left (P l (v.getD i 0)) (P l (v.getD ((i + 1) % v.length) 0)) (P l (v.getD ((i + 2) % v.length) 0))
  two : v.length = 2 → ∀ i, i < 2 → ∀ p ∈ l, left (P l (v.getD i 0)) (P l (v.getD ((i + 1) % v.length) 0)) p = 0
  two' : v.length = 2 → ∀ p ∈ l, before (P l (v.getD 1 0)) p = false
  one : v.length = 1 → ∀ p ∈ l, p = P l (v.getD 0 0)

theorem take_getD' {zs v : List Nat} {n i : Nat} (h : zs.take n = v) (hi : i < n) : zs.getD i 0 = v.getD i 0 := by
  rw [← h, List.getD_eq_getElem?_getD, List.getD_eq_getElem?_getD, List.getElem?_take_of_lt hi]
theorem tmod_nat (a n : Nat) : Int.tmod (a : Int) (n : Int) = ((a % n : Nat) : Int) := (Int.ofNat_tmod a n).symm

theorem foldl_min_mem : ∀ (v : List Nat) (a : Nat), v.foldl min a = a ∨ v.foldl min a ∈ v := by
  intro v
  induction v with
  | nil => intro a; exact .inl rfl
  | cons x v ih =>
    intro a
    simp only [List.foldl_cons]
    rcases ih (min a x) with h | h
    · rw [h]
      by_cases hx : a ≤ x
      · exact .inl (Nat.min_eq_left hx)
      · exact .inr (by rw [Nat.min_eq_right (by omega)]; simp)
    · exact .inr (by simp [h])
theorem foldl_max_mem : ∀ (v : List Nat) (a : Nat), v.foldl max a = a ∨ v.foldl max a ∈ v := by
  intro v
  induction v with
  | nil => intro a; exact .inl rfl
  | cons x v ih =>
    intro a
    simp only [List.foldl_cons]
    rcases ih (max a x) with h | h
    · rw [h]
      by_cases hx : x ≤ a
      · exact .inl (Nat.max_eq_left hx)
      · exact .inr (by rw [Nat.max_eq_right (by omega)]; simp)
    · exact .inr (by simp [h])
theorem mostI_mem {v : List Nat} (hv : 0 < v.length) : mostI v ∈ v := by
  cases v with
  | nil => simp at hv
  | cons x v =>
    unfold mostI
    rcases foldl_max_mem v x with h | h
    · simp [h]
    · simp [h]

theorem viewArgs1 {hl : List Blk} {x x' : AV} {T : List Nat} (h1 : viewG hl 6 x = some (x', T)) : viewArgs hl [x] = some ([x'], T) := by
  simp only [viewArgs, h1, List.append_nil]

theorem c7 (l : List Pt) (hT : 0 < l.length → l.length ≤ 8 → l.all okP = true → HullT l (hullI l)) : CallsF Try.prog 7 [pts l] [] (.bool true) [] := by
  by_cases hr : (decide (0 < l.length) && (decide (l.length ≤ 8) && (chk l == 0))) = true
  · simp only [Bool.and_eq_true, decide_eq_true_eq, beq_iff_eq] at hr
    obtain ⟨hl, hl8, hc0⟩ := hr
    have hok : l.all okP = true := by
      unfold chk at hc0
      split at hc0
      · cases hc0
      · by_cases h : l.all okP = true
        · exact h
        · rw [if_neg h] at hc0; cases hc0
    have T := hT hl hl8 hok
    have k25 := c25 l
    rw [show (decide (0 < l.length) && (decide (l.length ≤ 8) && (chk l == 0))) = true by simp [hl, hl8, hc0]] at k25
    obtain ⟨zs, z1, z2, z3⟩ := c13 l hl (by omega) hok
    obtain ⟨v, hv⟩ : ∃ v, v = hullI l := ⟨_, rfl⟩
    rw [← hv] at T z1 z2 z3
    obtain ⟨n, hn⟩ : ∃ n, n = v.length := ⟨_, rfl⟩
    rw [← hn] at z1 z2 z3
    have n0 : 0 < n := by rw [hn]; exact T.ne
    have n8 : n ≤ l.length := by rw [hn]; exact T.le
    have zv : ∀ k, k < n → zs.getD k 0 = v.getD k 0 := fun k hk => take_getD' z1 hk
    have vm : ∀ k, k < n → v.getD k 0 < l.length := fun k hk => getD_lt T.mem (by omega)
    have hz0 : ((n : Int) == 0) = false := beq_eq_false_iff_ne.2 (by omega)
    have hz1 : ¬ ((l.length : Int) < (n : Int)) := by omega
    have k34 := c34 v T.ne (by omega)
    have k35 := c35 v T.ne (by omega)
    have hm0 : ¬ ((leastI v : Nat) : Int) < 0 := by omega
    have hm1 : ¬ ((l.length : Int) ≤ ((mostI v : Nat) : Int)) := by have := T.mem _ (mostI_mem T.ne); omega
    have hvz : viewG [.row false 0 false 1 (ix zs)] 6 (.sl 0 0 0 n) = some (ixV v, [0]) := by
      rw [viewG_ix (b := 0) (g := 0) (i := 0) (k := n) (nil := false) (frz := false) (xs := zs) rfl (by omega), List.drop_zero, z1]; rfl
    refine callsF_cwx hm hf7 (by simp [cf7]) ?_
    simp only [cf7, argsAl]
    refine CWx.r fun K hK => ?_
    simp (maxSteps := 4000000) only [amC, amX, evsA, evpA, elemsA, elemsP, sizedA, optA, refA, consO, Am.get, AV.elem, AV.cells, AV.one, hsetL, hset, hget, loadAV, rowAt?, loadCells', faddrAV, binAV, fillA, storeAV, AV.putCells, AV.ref, List.foldl, List.all, List.map, List.set, List.take, List.drop, Option.getD, Option.map, if_true, if_false, Nat.reduceEqDiff, Nat.reduceAdd, Nat.reduceLT, Nat.reduceLeDiff, reduceCtorEq, ↓reduceIte, pickAV, lenAV, intAV, slcA, slcAV, iaddrAV, extAV, fldAV, eqCells, eqCell, contAV, appendAV, foldAV, maxI, minI, Option.some.injEq, catT]
    refine hK _ _ _ nofun ?_
    clear hK K
    refine CWx.seq ?_
    refine CWx.r fun K hK => ?_
    simp (maxSteps := 4000000) only [amC, amX, evsA, evpA, elemsA, elemsP, sizedA, optA, refA, consO, Am.get, AV.elem, AV.cells, AV.one, hsetL, hset, hget, loadAV, rowAt?, loadCells', faddrAV, binAV, fillA, storeAV, AV.putCells, AV.ref, List.foldl, List.all, List.map, List.set, List.take, List.drop, Option.getD, Option.map, if_true, if_false, Nat.reduceEqDiff, Nat.reduceAdd, Nat.reduceLT, Nat.reduceLeDiff, reduceCtorEq, ↓reduceIte, pickAV, lenAV, intAV, slcA, slcAV, iaddrAV, extAV, fldAV, eqCells, eqCell, contAV, appendAV, foldAV, maxI, minI, Option.some.injEq, catT]
    refine RCx.view (fid := 25) (caps := []) rfl rfl (viewArgs_flat1 (flat_pts l 2)) k25 rfl ?_
    simp (maxSteps := 4000000) only [amC, amX, evsA, evpA, elemsA, elemsP, sizedA, optA, refA, consO, Am.get, AV.elem, AV.cells, AV.one, hsetL, hset, hget, loadAV, rowAt?, loadCells', faddrAV, binAV, fillA, storeAV, AV.putCells, AV.ref, List.foldl, List.all, List.map, List.set, List.take, List.drop, Option.getD, Option.map, if_true, if_false, Nat.reduceEqDiff, Nat.reduceAdd, Nat.reduceLT, Nat.reduceLeDiff, reduceCtorEq, ↓reduceIte, pickAV, lenAV, intAV, slcA, slcAV, iaddrAV, extAV, fldAV, eqCells, eqCell, contAV, appendAV, foldAV, maxI, minI, Option.some.injEq, catT]
    refine hK _ _ _ nofun ?_
    clear hK K
    refine CWx.condF rfl (CWx.skip (CWx.go ?_))
    refine CWx.r fun K hK => ?_
    simp (maxSteps := 4000000) only [amC, amX, evsA, evpA, elemsA, elemsP, sizedA, optA, refA, consO, Am.get, AV.elem, AV.cells, AV.one, hsetL, hset, hget, loadAV, rowAt?, loadCells', faddrAV, binAV, fillA, storeAV, AV.putCells, AV.ref, List.foldl, List.all, List.map, List.set, List.take, List.drop, Option.getD, Option.map, if_true, if_false, Nat.reduceEqDiff, Nat.reduceAdd, Nat.reduceLT, Nat.reduceLeDiff, reduceCtorEq, ↓reduceIte, pickAV, lenAV, intAV, slcA, slcAV, iaddrAV, extAV, fldAV, eqCells, eqCell, contAV, appendAV, foldAV, maxI, minI, Option.some.injEq, catT]
    refine RCx.viewR (fid := 13) (caps := []) rfl rfl (viewArgs_flat1 (flat_pts l 2)) z3 (by simp [AV.clean, cleanL, Blk.clean, cleanL_ix]) ?_
    simp (maxSteps := 4000000) only [amC, amX, evsA, evpA, elemsA, elemsP, sizedA, optA, refA, consO, Am.get, AV.elem, AV.cells, AV.one, hsetL, hset, hget, loadAV, rowAt?, loadCells', faddrAV, binAV, fillA, storeAV, AV.putCells, AV.ref, List.foldl, List.all, List.map, List.set, List.take, List.drop, Option.getD, Option.map, if_true, if_false, Nat.reduceEqDiff, Nat.reduceAdd, Nat.reduceLT, Nat.reduceLeDiff, reduceCtorEq, ↓reduceIte, pickAV, lenAV, intAV, slcA, slcAV, iaddrAV, extAV, fldAV, eqCells, eqCell, contAV, appendAV, foldAV, maxI, minI, Option.some.injEq, catT, AV.ren, renL, Blk.ren, renL_id (ix zs) (ltL_ix _ _)]
    refine hK _ _ _ nofun ?_
    clear hK K
    refine CWx.seq ?_
    unfold pts
    refine CWx.r fun K hK => ?_
    simp (maxSteps := 4000000) only [amC, amX, evsA, evpA, elemsA, elemsP, sizedA, optA, refA, consO, Am.get, AV.elem, AV.cells, AV.one, hsetL, hset, hget, loadAV, rowAt?, loadCells', faddrAV, binAV, fillA, storeAV, AV.putCells, AV.ref, List.foldl, List.all, List.map, List.set, List.take, List.drop, Option.getD, Option.map, if_true, if_false, Nat.reduceEqDiff, Nat.reduceAdd, Nat.reduceLT, Nat.reduceLeDiff, reduceCtorEq, ↓reduceIte, pickAV, lenAV, intAV, slcA, slcAV, iaddrAV, extAV, fldAV, eqCells, eqCell, contAV, appendAV, foldAV, maxI, minI, Option.some.injEq, catT, show ((0 : Int) != 0) = false from rfl, hz0, hz1, List.length_map]
    refine RCx.view (fid := 34) (caps := []) rfl rfl (viewArgs1 hvz) k34 rfl ?_
    simp (maxSteps := 4000000) only [amC, amX, evsA, evpA, elemsA, elemsP, sizedA, optA, refA, consO, Am.get, AV.elem, AV.cells, AV.one, hsetL, hset, hget, loadAV, rowAt?, loadCells', faddrAV, binAV, fillA, storeAV, AV.putCells, AV.ref, List.foldl, List.all, List.map, List.set, List.take, List.drop, Option.getD, Option.map, if_true, if_false, Nat.reduceEqDiff, Nat.reduceAdd, Nat.reduceLT, Nat.reduceLeDiff, reduceCtorEq, ↓reduceIte, pickAV, lenAV, intAV, slcA, slcAV, iaddrAV, extAV, fldAV, eqCells, eqCell, contAV, appendAV, foldAV, maxI, minI, Option.some.injEq, catT, hm0]
    refine RCx.view (fid := 35) (caps := []) rfl rfl (viewArgs1 hvz) k35 rfl ?_
    simp (maxSteps := 4000000) only [amC, amX, evsA, evpA, elemsA, elemsP, sizedA, optA, refA, consO, Am.get, AV.elem, AV.cells, AV.one, hsetL, hset, hget, loadAV, rowAt?, loadCells', faddrAV, binAV, fillA, storeAV, AV.putCells, AV.ref, List.foldl, List.all, List.map, List.set, List.take, List.drop, Option.getD, Option.map, if_true, if_false, Nat.reduceEqDiff, Nat.reduceAdd, Nat.reduceLT, Nat.reduceLeDiff, reduceCtorEq, ↓reduceIte, pickAV, lenAV, intAV, slcA, slcAV, iaddrAV, extAV, fldAV, eqCells, eqCell, contAV, appendAV, foldAV, maxI, minI, Option.some.injEq, catT, hm1, List.length_map]
    refine hK _ _ _ nofun ?_
    clear hK K
    refine CWx.condF rfl (CWx.skip (CWx.go ?_))
    refine CWx.seq ?_
    refine CWx.r fun K hK => ?_
    simp (maxSteps := 4000000) only [amC, amX, evsA, evpA, elemsA, elemsP, sizedA, optA, refA, consO, Am.get, AV.elem, AV.cells, AV.one, hsetL, hset, hget, loadAV, rowAt?, loadCells', faddrAV, binAV, fillA, storeAV, AV.putCells, AV.ref, List.foldl, List.all, List.map, List.set, List.take, List.drop, Option.getD, Option.map, if_true, if_false, Nat.reduceEqDiff, Nat.reduceAdd, Nat.reduceLT, Nat.reduceLeDiff, reduceCtorEq, ↓reduceIte, pickAV, lenAV, intAV, slcA, slcAV, iaddrAV, extAV, fldAV, eqCells, eqCell, contAV, appendAV, foldAV, maxI, minI, Option.some.injEq, catT]
    refine hK _ _ _ nofun ?_
    clear hK K
    refine CWx.block ?_
    refine CWx.loopF (fun i : Nat => n - i) (fun i => ⟨[(0, pts l), (3, .sl 0 0 0 n), (46, .sl 0 0 0 n), (47, .int .i64 (n : Int)), (48, .int .i64 (i : Int))], [.row false 0 false 1 (ix zs)]⟩)
      (fun i => i ≤ n) (fun i hi => ?_) 0 (Nat.zero_le _) (Fgt.mk' 1 (by simp) (by simp [keepB, Am.get, AV.lt, ltL, lt_pts, pts, ltL_pt]) rfl ⟨by simp only [Blk.lt, ltL_ix], trivial⟩)
    by_cases h : (i : Int) < (n : Int)
    · refine CWx.r fun K hK => ?_
      simp (maxSteps := 4000000) only [amC, amX, evsA, evpA, elemsA, elemsP, sizedA, optA, refA, consO, Am.get, AV.elem, AV.cells, AV.one, hsetL, hset, hget, loadAV, rowAt?, loadCells', faddrAV, binAV, fillA, storeAV, AV.putCells, AV.ref, List.foldl, List.all, List.map, List.set, List.take, List.drop, Option.getD, Option.map, if_true, if_false, Nat.reduceEqDiff, Nat.reduceAdd, Nat.reduceLT, Nat.reduceLeDiff, reduceCtorEq, ↓reduceIte, pickAV, lenAV, intAV, slcA, slcAV, iaddrAV, extAV, fldAV, eqCells, eqCell, contAV, appendAV, foldAV, maxI, minI, Option.some.injEq, catT, h]
      refine hK _ _ _ nofun ?_
      clear hK K
      refine CWx.seq ?_
      refine CWx.condT rfl (CWx.skip (CWx.go ?_))
      refine CWx.seq ?_
      refine CWx.block ?_
      have hin : i < n := by omega
      have hzi := ix_get zs (show i < zs.length by omega)
      rw [zv i hin] at hzi
      refine CWx.r fun K hK => ?_
      simp (maxSteps := 4000000) only [amC, amX, evsA, evpA, elemsA, elemsP, sizedA, optA, refA, consO, Am.get, AV.elem, AV.cells, AV.one, hsetL, hset, hget, loadAV, rowAt?, loadCells', faddrAV, binAV, fillA, storeAV, AV.putCells, AV.ref, List.foldl, List.all, List.map, List.set, List.take, List.drop, Option.getD, Option.map, if_true, if_false, Nat.reduceEqDiff, Nat.reduceAdd, Nat.reduceLT, Nat.reduceLeDiff, reduceCtorEq, ↓reduceIte, pickAV, lenAV, intAV, slcA, slcAV, iaddrAV, extAV, fldAV, eqCells, eqCell, contAV, appendAV, foldAV, maxI, minI, Option.some.injEq, catT, h, Int.natCast_nonneg, Int.toNat_natCast, hzi, AV.cells]
      refine hK _ _ _ nofun ?_
      clear hK K
      have hn00 : ¬ ((n : Int) = 0) := by omega
      obtain ⟨j, hj⟩ : ∃ j, j = (i + 1) % n := ⟨_, rfl⟩
      obtain ⟨k, hk⟩ : ∃ k, k = (i + 2) % n := ⟨_, rfl⟩
      have hjn : j < n := by rw [hj]; exact Nat.mod_lt _ n0
      have hkn : k < n := by rw [hk]; exact Nat.mod_lt _ n0
      have w1 : IntKind.i64.wrap ((i : Int) + 1) = ((i + 1 : Nat) : Int) := wrap_nat i (by omega)
      have w2 : IntKind.i64.wrap ((i : Int) + 2) = ((i + 2 : Nat) : Int) := by rw [wr _ (by omega) (by omega)]; omega
      have r1 : Int.tmod ((i + 1 : Nat) : Int) (n : Int) = (j : Int) := by rw [tmod_nat, ← hj]
      have r2 : Int.tmod ((i + 2 : Nat) : Int) (n : Int) = (k : Int) := by rw [tmod_nat, ← hk]
      have hzj := ix_get zs (show j < zs.length by omega)
      have hzk := ix_get zs (show k < zs.length by omega)
      rw [zv j hjn] at hzj
      rw [zv k hkn] at hzk
      have jn : (j : Int) < (n : Int) := by omega
      have kn : (k : Int) < (n : Int) := by omega
      refine CWx.r fun K hK => ?_
      simp (maxSteps := 4000000) only [amC, amX, evsA, evpA, elemsA, elemsP, sizedA, optA, refA, consO, Am.get, AV.elem, AV.cells, AV.one, hsetL, hset, hget, loadAV, rowAt?, loadCells', faddrAV, binAV, fillA, storeAV, AV.putCells, AV.ref, List.foldl, List.all, List.map, List.set, List.take, List.drop, Option.getD, Option.map, if_true, if_false, Nat.reduceEqDiff, Nat.reduceAdd, Nat.reduceLT, Nat.reduceLeDiff, reduceCtorEq, ↓reduceIte, pickAV, lenAV, intAV, slcA, slcAV, iaddrAV, extAV, fldAV, eqCells, eqCell, contAV, appendAV, foldAV, maxI, minI, Option.some.injEq, catT, w1, w2, hn00, r1, r2, jn, kn, Int.natCast_nonneg, Int.toNat_natCast, hzj, hzk, AV.cells]
      refine hK _ _ _ (fun _ => rfl) ?_
      clear hK K
      obtain ⟨a, ha⟩ : ∃ a, a = v.getD i 0 := ⟨_, rfl⟩
      obtain ⟨b, hb⟩ : ∃ b, b = v.getD j 0 := ⟨_, rfl⟩
      obtain ⟨c, hc⟩ : ∃ c, c = v.getD k 0 := ⟨_, rfl⟩
      have am : a < l.length := by rw [ha]; exact vm i hin
      have bm : b < l.length := by rw [hb]; exact vm j hjn
      have cm : c < l.length := by rw [hc]; exact vm k hkn
      have am' : (a : Int) < (l.length : Int) := by omega
      have bm' : (b : Int) < (l.length : Int) := by omega
      have cm' : (c : Int) < (l.length : Int) := by omega
      have pa := get_pts (getp am)
      have pb := get_pts (getp bm)
      have pc := get_pts (getp cm)
      rw [← ha, ← hb, ← hc]
      refine CWx.seq ?_
      refine CWx.r fun K hK => ?_
      simp (maxSteps := 4000000) only [amC, amX, evsA, evpA, elemsA, elemsP, sizedA, optA, refA, consO, Am.get, AV.elem, AV.cells, AV.one, hsetL, hset, hget, loadAV, rowAt?, loadCells', faddrAV, binAV, fillA, storeAV, AV.putCells, AV.ref, List.foldl, List.all, List.map, List.set, List.take, List.drop, Option.getD, Option.map, if_true, if_false, Nat.reduceEqDiff, Nat.reduceAdd, Nat.reduceLT, Nat.reduceLeDiff, reduceCtorEq, ↓reduceIte, pickAV, lenAV, intAV, slcA, slcAV, iaddrAV, extAV, fldAV, eqCells, eqCell, contAV, appendAV, foldAV, maxI, minI, Option.some.injEq, catT, pts, List.length_map]
      refine hK _ _ _ nofun ?_
      clear hK K
      refine CWx.block ?_
      refine CWx.loopF (fun m : Nat => l.length - m) (fun m => ⟨[(0, pts l), (3, .sl 0 0 0 n), (5, .int .i64 (i : Int)), (6, .int .i64 (a : Int)), (7, .int .i64 (b : Int)), (8, .int .i64 (c : Int)), (46, .sl 0 0 0 n), (47, .int .i64 (n : Int)), (48, .int .i64 (i : Int)), (69, pts l), (70, .int .i64 (l.length : Int)), (71, .int .i64 (m : Int))], [.row false 0 false 1 (ix zs)]⟩)
        (fun m => m ≤ l.length) (fun m hm => ?_) 0 (Nat.zero_le _) (Fgt.mk' 1 (by simp) (by simp [keepB, Am.get, AV.lt, ltL, lt_pts, pts, ltL_pt]) rfl ⟨by simp only [Blk.lt, ltL_ix], trivial⟩)
      by_cases hml : (m : Int) < (l.length : Int)
      · refine CWx.r fun K hK => ?_
        simp (maxSteps := 4000000) only [amC, amX, evsA, evpA, elemsA, elemsP, sizedA, optA, refA, consO, Am.get, AV.elem, AV.cells, AV.one, hsetL, hset, hget, loadAV, rowAt?, loadCells', faddrAV, binAV, fillA, storeAV, AV.putCells, AV.ref, List.foldl, List.all, List.map, List.set, List.take, List.drop, Option.getD, Option.map, if_true, if_false, Nat.reduceEqDiff, Nat.reduceAdd, Nat.reduceLT, Nat.reduceLeDiff, reduceCtorEq, ↓reduceIte, pickAV, lenAV, intAV, slcA, slcAV, iaddrAV, extAV, fldAV, eqCells, eqCell, contAV, appendAV, foldAV, maxI, minI, Option.some.injEq, catT, hml]
        refine hK _ _ _ nofun ?_
        clear hK K
        refine CWx.seq ?_
        refine CWx.condT rfl (CWx.skip (CWx.go ?_))
        refine CWx.seq ?_
        refine CWx.block ?_
        have hml' : m < l.length := by omega
        have pm := get_pts (getp hml')
        refine CWx.r fun K hK => ?_
        simp (maxSteps := 4000000) only [amC, amX, evsA, evpA, elemsA, elemsP, sizedA, optA, refA, consO, Am.get, AV.elem, AV.cells, AV.one, hsetL, hset, hget, loadAV, rowAt?, loadCells', faddrAV, binAV, fillA, storeAV, AV.putCells, AV.ref, List.foldl, List.all, List.map, List.set, List.take, List.drop, Option.getD, Option.map, if_true, if_false, Nat.reduceEqDiff, Nat.reduceAdd, Nat.reduceLT, Nat.reduceLeDiff, reduceCtorEq, ↓reduceIte, pickAV, lenAV, intAV, slcA, slcAV, iaddrAV, extAV, fldAV, eqCells, eqCell, contAV, appendAV, foldAV, maxI, minI, Option.some.injEq, catT, pts, hml, List.length_map, Int.natCast_nonneg, Int.toNat_natCast, pm, pt, AV.cells, AV.elem, AV.one, List.all_cons, List.all_nil]
        refine hK _ _ _ nofun ?_
        clear hK K
        have d0m : v.getD 0 0 < l.length := vm 0 n0
        obtain ⟨d, hd⟩ : ∃ d, d = v.getD 0 0 := ⟨_, rfl⟩
        have hz00 := ix_get zs (show 0 < zs.length by omega)
        rw [zv 0 n0, ← hd] at hz00
        rw [← hd] at d0m
        have dm' : (d : Int) < (l.length : Int) := by omega
        have pd := get_pts (getp d0m)
        have n0' : (0 : Int) < (n : Int) := by omega
        have hpm : l.getD m (0, 0) ∈ l := List.mem_of_getElem? (getp hml')
        have bf := c36 (l.getD m (0, 0)) (l.getD d (0, 0))
        have bf0 := T.first _ hpm
        rw [← hd] at bf0
        rw [show before (l.getD m (0, 0)) (l.getD d (0, 0)) = false from bf0] at bf
        have k33 := c33 (all_ok hok am) (all_ok hok bm) (all_ok hok hml')
        by_cases n3 : 2 < n
        · have hge : ¬ left (l.getD a (0, 0)) (l.getD b (0, 0)) (l.getD m (0, 0)) < 0 := by
            have := T.big (by omega) i (by omega) _ hpm
            rw [← hn, ← hj, ← ha, ← hb] at this
            exact Int.not_lt.2 this
          have n3' : (2 : Int) < (n : Int) := by omega
          have n2' : ((n : Int) == 2) = false := beq_eq_false_iff_ne.2 (by omega)
          have n1' : ((n : Int) == 1) = false := beq_eq_false_iff_ne.2 (by omega)
          refine CWx.seq ?_
          refine CWx.r fun K hK => ?_
          simp (maxSteps := 4000000) only [amC, amX, evsA, evpA, elemsA, elemsP, sizedA, optA, refA, consO, Am.get, AV.elem, AV.cells, AV.one, hsetL, hset, hget, loadAV, rowAt?, loadCells', faddrAV, binAV, fillA, storeAV, AV.putCells, AV.ref, List.foldl, List.all, List.map, List.set, List.take, List.drop, Option.getD, Option.map, if_true, if_false, Nat.reduceEqDiff, Nat.reduceAdd, Nat.reduceLT, Nat.reduceLeDiff, reduceCtorEq, ↓reduceIte, pickAV, lenAV, intAV, slcA, slcAV, iaddrAV, extAV, fldAV, eqCells, eqCell, contAV, appendAV, foldAV, maxI, minI, Option.some.injEq, catT, n3', am', bm', dm', n0', Int.natCast_nonneg, Int.toNat_natCast, Int.toNat_zero, Int.le_refl, List.length_map, pa, pb, pd, hz00, pt, AV.cells, AV.elem, AV.one, List.all_cons, List.all_nil]
          refine RCx.view (fid := 33) (caps := []) rfl rfl rfl k33 rfl ?_
          simp (maxSteps := 4000000) only [amC, amX, evsA, evpA, elemsA, elemsP, sizedA, optA, refA, consO, Am.get, AV.elem, AV.cells, AV.one, hsetL, hset, hget, loadAV, rowAt?, loadCells', faddrAV, binAV, fillA, storeAV, AV.putCells, AV.ref, List.foldl, List.all, List.map, List.set, List.take, List.drop, Option.getD, Option.map, if_true, if_false, Nat.reduceEqDiff, Nat.reduceAdd, Nat.reduceLT, Nat.reduceLeDiff, reduceCtorEq, ↓reduceIte, pickAV, lenAV, intAV, slcA, slcAV, iaddrAV, extAV, fldAV, eqCells, eqCell, contAV, appendAV, foldAV, maxI, minI, Option.some.injEq, catT, hge, dm', n0', Int.natCast_nonneg, Int.toNat_natCast, Int.toNat_zero, Int.le_refl, List.length_map, pd, hz00, pt, AV.cells, AV.elem, AV.one, List.all_cons, List.all_nil]
          refine RCx.view (fid := 36) (caps := []) rfl rfl rfl bf rfl ?_
          simp (maxSteps := 4000000) only [amC, amX, evsA, evpA, elemsA, elemsP, sizedA, optA, refA, consO, Am.get, AV.elem, AV.cells, AV.one, hsetL, hset, hget, loadAV, rowAt?, loadCells', faddrAV, binAV, fillA, storeAV, AV.putCells, AV.ref, List.foldl, List.all, List.map, List.set, List.take, List.drop, Option.getD, Option.map, if_true, if_false, Nat.reduceEqDiff, Nat.reduceAdd, Nat.reduceLT, Nat.reduceLeDiff, reduceCtorEq, ↓reduceIte, pickAV, lenAV, intAV, slcA, slcAV, iaddrAV, extAV, fldAV, eqCells, eqCell, contAV, appendAV, foldAV, maxI, minI, Option.some.injEq, catT]
          refine hK _ _ _ (fun _ => rfl) ?_
          clear hK K
          refine CWx.condF rfl (CWx.skip (CWx.go ?_))
          refine CWx.r fun K hK => ?_
          simp (maxSteps := 4000000) only [amC, amX, evsA, evpA, elemsA, elemsP, sizedA, optA, refA, consO, Am.get, AV.elem, AV.cells, AV.one, hsetL, hset, hget, loadAV, rowAt?, loadCells', faddrAV, binAV, fillA, storeAV, AV.putCells, AV.ref, List.foldl, List.all, List.map, List.set, List.take, List.drop, Option.getD, Option.map, if_true, if_false, Nat.reduceEqDiff, Nat.reduceAdd, Nat.reduceLT, Nat.reduceLeDiff, reduceCtorEq, ↓reduceIte, pickAV, lenAV, intAV, slcA, slcAV, iaddrAV, extAV, fldAV, eqCells, eqCell, contAV, appendAV, foldAV, maxI, minI, Option.some.injEq, catT, n2', n1']
          refine hK _ _ _ (fun _ => rfl) ?_
          clear hK K
          refine CWx.condF rfl (CWx.skip (CWx.go ?_))
          refine CWx.e fun K hK => ?_
          simp (maxSteps := 4000000) only [amC, amX, evsA, evpA, elemsA, elemsP, sizedA, optA, refA, consO, Am.get, AV.elem, AV.cells, AV.one, hsetL, hset, hget, loadAV, rowAt?, loadCells', faddrAV, binAV, fillA, storeAV, AV.putCells, AV.ref, List.foldl, List.all, List.map, List.set, List.take, List.drop, Option.getD, Option.map, if_true, if_false, Nat.reduceEqDiff, Nat.reduceAdd, Nat.reduceLT, Nat.reduceLeDiff, reduceCtorEq, ↓reduceIte, pickAV, lenAV, intAV, slcA, slcAV, iaddrAV, extAV, fldAV, eqCells, eqCell, contAV, appendAV, foldAV, maxI, minI, Option.some.injEq, catT, wrap_nat m (by omega)]
          refine hK _ _ _ nofun ?_
          clear hK K
          intro al hal
          exact ⟨m + 1, by omega, by omega, Fgt.ofx hal (Fgt.mk' 1 (by simp) (by simp [keepB, Am.get, AV.lt, ltL, lt_pts, pts, ltL_pt]) rfl ⟨by simp only [Blk.lt, ltL_ix], trivial⟩)⟩
        · have n3' : ¬ (2 : Int) < (n : Int) := by omega
          by_cases n2 : n = 2
          · have h33 := T.two (by omega) i (by omega) _ hpm
            rw [← hn, ← hj, ← ha, ← hb] at h33
            rw [show left (l.getD a (0, 0)) (l.getD b (0, 0)) (l.getD m (0, 0)) = 0 from h33] at k33
            have n2' : ((n : Int) == 2) = true := by simp [n2]
            have n1' : ((n : Int) == 1) = false := beq_eq_false_iff_ne.2 (by omega)
            have e1m : v.getD 1 0 < l.length := vm 1 (by omega)
            obtain ⟨e, he⟩ : ∃ e, e = v.getD 1 0 := ⟨_, rfl⟩
            have hz01 := ix_get zs (show 1 < zs.length by omega)
            rw [zv 1 (by omega), ← he] at hz01
            rw [← he] at e1m
            have em' : (e : Int) < (l.length : Int) := by omega
            have pe := get_pts (getp e1m)
            have n1x : (1 : Int) < (n : Int) := by omega
            have bg := c36 (l.getD e (0, 0)) (l.getD m (0, 0))
            have bg0 := T.two' (by omega) _ hpm
            rw [← he] at bg0
            rw [show before (l.getD e (0, 0)) (l.getD m (0, 0)) = false from bg0] at bg
            refine CWx.seq ?_
            refine CWx.r fun K hK => ?_
            simp (maxSteps := 4000000) only [amC, amX, evsA, evpA, elemsA, elemsP, sizedA, optA, refA, consO, Am.get, AV.elem, AV.cells, AV.one, hsetL, hset, hget, loadAV, rowAt?, loadCells', faddrAV, binAV, fillA, storeAV, AV.putCells, AV.ref, List.foldl, List.all, List.map, List.set, List.take, List.drop, Option.getD, Option.map, if_true, if_false, Nat.reduceEqDiff, Nat.reduceAdd, Nat.reduceLT, Nat.reduceLeDiff, reduceCtorEq, ↓reduceIte, pickAV, lenAV, intAV, slcA, slcAV, iaddrAV, extAV, fldAV, eqCells, eqCell, contAV, appendAV, foldAV, maxI, minI, Option.some.injEq, catT, n3', am', bm', dm', n0', Int.natCast_nonneg, Int.toNat_natCast, Int.toNat_zero, Int.le_refl, List.length_map, pa, pb, pd, hz00, pt, AV.cells, AV.elem, AV.one, List.all_cons, List.all_nil]
            refine RCx.view (fid := 36) (caps := []) rfl rfl rfl bf rfl ?_
            simp (maxSteps := 4000000) only [amC, amX, evsA, evpA, elemsA, elemsP, sizedA, optA, refA, consO, Am.get, AV.elem, AV.cells, AV.one, hsetL, hset, hget, loadAV, rowAt?, loadCells', faddrAV, binAV, fillA, storeAV, AV.putCells, AV.ref, List.foldl, List.all, List.map, List.set, List.take, List.drop, Option.getD, Option.map, if_true, if_false, Nat.reduceEqDiff, Nat.reduceAdd, Nat.reduceLT, Nat.reduceLeDiff, reduceCtorEq, ↓reduceIte, pickAV, lenAV, intAV, slcA, slcAV, iaddrAV, extAV, fldAV, eqCells, eqCell, contAV, appendAV, foldAV, maxI, minI, Option.some.injEq, catT]
            refine hK _ _ _ (fun _ => rfl) ?_
            clear hK K
            refine CWx.condF rfl (CWx.skip (CWx.go ?_))
            refine CWx.r fun K hK => ?_
            simp (maxSteps := 4000000) only [amC, amX, evsA, evpA, elemsA, elemsP, sizedA, optA, refA, consO, Am.get, AV.elem, AV.cells, AV.one, hsetL, hset, hget, loadAV, rowAt?, loadCells', faddrAV, binAV, fillA, storeAV, AV.putCells, AV.ref, List.foldl, List.all, List.map, List.set, List.take, List.drop, Option.getD, Option.map, if_true, if_false, Nat.reduceEqDiff, Nat.reduceAdd, Nat.reduceLT, Nat.reduceLeDiff, reduceCtorEq, ↓reduceIte, pickAV, lenAV, intAV, slcA, slcAV, iaddrAV, extAV, fldAV, eqCells, eqCell, contAV, appendAV, foldAV, maxI, minI, Option.some.injEq, catT, n2', n1', am', bm', Int.natCast_nonneg, Int.toNat_natCast, Int.le_refl, List.length_map, pa, pb, pt, AV.cells, AV.elem, AV.one, List.all_cons, List.all_nil]
            refine RCx.view (fid := 33) (caps := []) rfl rfl rfl k33 rfl ?_
            simp (maxSteps := 4000000) only [amC, amX, evsA, evpA, elemsA, elemsP, sizedA, optA, refA, consO, Am.get, AV.elem, AV.cells, AV.one, hsetL, hset, hget, loadAV, rowAt?, loadCells', faddrAV, binAV, fillA, storeAV, AV.putCells, AV.ref, List.foldl, List.all, List.map, List.set, List.take, List.drop, Option.getD, Option.map, if_true, if_false, Nat.reduceEqDiff, Nat.reduceAdd, Nat.reduceLT, Nat.reduceLeDiff, reduceCtorEq, ↓reduceIte, pickAV, lenAV, intAV, slcA, slcAV, iaddrAV, extAV, fldAV, eqCells, eqCell, contAV, appendAV, foldAV, maxI, minI, Option.some.injEq, catT, show ((0 : Int) != 0) = false from rfl, n1', em', n1x, Int.toNat_one, Int.natCast_nonneg, Int.toNat_natCast, Int.le_refl, show (0 : Int) ≤ 1 from by decide, List.length_map, pe, hz01, pt, AV.cells, AV.elem, AV.one, List.all_cons, List.all_nil]
            refine RCx.view (fid := 36) (caps := []) rfl rfl rfl bg rfl ?_
            simp (maxSteps := 4000000) only [amC, amX, evsA, evpA, elemsA, elemsP, sizedA, optA, refA, consO, Am.get, AV.elem, AV.cells, AV.one, hsetL, hset, hget, loadAV, rowAt?, loadCells', faddrAV, binAV, fillA, storeAV, AV.putCells, AV.ref, List.foldl, List.all, List.map, List.set, List.take, List.drop, Option.getD, Option.map, if_true, if_false, Nat.reduceEqDiff, Nat.reduceAdd, Nat.reduceLT, Nat.reduceLeDiff, reduceCtorEq, ↓reduceIte, pickAV, lenAV, intAV, slcA, slcAV, iaddrAV, extAV, fldAV, eqCells, eqCell, contAV, appendAV, foldAV, maxI, minI, Option.some.injEq, catT, n1']
            refine hK _ _ _ (fun _ => rfl) ?_
            clear hK K
            refine CWx.condF rfl (CWx.skip (CWx.go ?_))
            refine CWx.e fun K hK => ?_
            simp (maxSteps := 4000000) only [amC, amX, evsA, evpA, elemsA, elemsP, sizedA, optA, refA, consO, Am.get, AV.elem, AV.cells, AV.one, hsetL, hset, hget, loadAV, rowAt?, loadCells', faddrAV, binAV, fillA, storeAV, AV.putCells, AV.ref, List.foldl, List.all, List.map, List.set, List.take, List.drop, Option.getD, Option.map, if_true, if_false, Nat.reduceEqDiff, Nat.reduceAdd, Nat.reduceLT, Nat.reduceLeDiff, reduceCtorEq, ↓reduceIte, pickAV, lenAV, intAV, slcA, slcAV, iaddrAV, extAV, fldAV, eqCells, eqCell, contAV, appendAV, foldAV, maxI, minI, Option.some.injEq, catT, wrap_nat m (by omega)]
            refine hK _ _ _ nofun ?_
            clear hK K
            intro al hal
            exact ⟨m + 1, by omega, by omega, Fgt.ofx hal (Fgt.mk' 1 (by simp) (by simp [keepB, Am.get, AV.lt, ltL, lt_pts, pts, ltL_pt]) rfl ⟨by simp only [Blk.lt, ltL_ix], trivial⟩)⟩
          · have n1 : n = 1 := by omega
            have n2' : ((n : Int) == 2) = false := beq_eq_false_iff_ne.2 (by omega)
            have n1' : ((n : Int) == 1) = true := by simp [n1]
            have hone := T.one (by omega) _ hpm
            have hai : a = v.getD 0 0 := by rw [ha, show i = 0 by omega]
            rw [← hai] at hone
            rw [show P l a = l.getD a (0, 0) from rfl] at hone
            rw [hone] at bf ⊢
            refine CWx.seq ?_
            refine CWx.r fun K hK => ?_
            simp (maxSteps := 4000000) only [amC, amX, evsA, evpA, elemsA, elemsP, sizedA, optA, refA, consO, Am.get, AV.elem, AV.cells, AV.one, hsetL, hset, hget, loadAV, rowAt?, loadCells', faddrAV, binAV, fillA, storeAV, AV.putCells, AV.ref, List.foldl, List.all, List.map, List.set, List.take, List.drop, Option.getD, Option.map, if_true, if_false, Nat.reduceEqDiff, Nat.reduceAdd, Nat.reduceLT, Nat.reduceLeDiff, reduceCtorEq, ↓reduceIte, pickAV, lenAV, intAV, slcA, slcAV, iaddrAV, extAV, fldAV, eqCells, eqCell, contAV, appendAV, foldAV, maxI, minI, Option.some.injEq, catT, n3', am', bm', dm', n0', Int.natCast_nonneg, Int.toNat_natCast, Int.toNat_zero, Int.le_refl, List.length_map, pa, pb, pd, hz00, pt, AV.cells, AV.elem, AV.one, List.all_cons, List.all_nil]
            refine RCx.view (fid := 36) (caps := []) rfl rfl rfl bf rfl ?_
            simp (maxSteps := 4000000) only [amC, amX, evsA, evpA, elemsA, elemsP, sizedA, optA, refA, consO, Am.get, AV.elem, AV.cells, AV.one, hsetL, hset, hget, loadAV, rowAt?, loadCells', faddrAV, binAV, fillA, storeAV, AV.putCells, AV.ref, List.foldl, List.all, List.map, List.set, List.take, List.drop, Option.getD, Option.map, if_true, if_false, Nat.reduceEqDiff, Nat.reduceAdd, Nat.reduceLT, Nat.reduceLeDiff, reduceCtorEq, ↓reduceIte, pickAV, lenAV, intAV, slcA, slcAV, iaddrAV, extAV, fldAV, eqCells, eqCell, contAV, appendAV, foldAV, maxI, minI, Option.some.injEq, catT]
            refine hK _ _ _ (fun _ => rfl) ?_
            clear hK K
            refine CWx.condF rfl (CWx.skip (CWx.go ?_))
            refine CWx.r fun K hK => ?_
            simp (maxSteps := 4000000) only [amC, amX, evsA, evpA, elemsA, elemsP, sizedA, optA, refA, consO, Am.get, AV.elem, AV.cells, AV.one, hsetL, hset, hget, loadAV, rowAt?, loadCells', faddrAV, binAV, fillA, storeAV, AV.putCells, AV.ref, List.foldl, List.all, List.map, List.set, List.take, List.drop, Option.getD, Option.map, if_true, if_false, Nat.reduceEqDiff, Nat.reduceAdd, Nat.reduceLT, Nat.reduceLeDiff, reduceCtorEq, ↓reduceIte, pickAV, lenAV, intAV, slcA, slcAV, iaddrAV, extAV, fldAV, eqCells, eqCell, contAV, appendAV, foldAV, maxI, minI, Option.some.injEq, catT, n2', n1', am', bm', Int.natCast_nonneg, Int.toNat_natCast, Int.le_refl, List.length_map, pa, pb, pt, AV.cells, AV.elem, AV.one, List.all_cons, List.all_nil, beq_self_eq_true, Bool.and_self, Bool.not_true]
            refine hK _ _ _ (fun _ => rfl) ?_
            clear hK K
            refine CWx.condF rfl (CWx.skip (CWx.go ?_))
            refine CWx.e fun K hK => ?_
            simp (maxSteps := 4000000) only [amC, amX, evsA, evpA, elemsA, elemsP, sizedA, optA, refA, consO, Am.get, AV.elem, AV.cells, AV.one, hsetL, hset, hget, loadAV, rowAt?, loadCells', faddrAV, binAV, fillA, storeAV, AV.putCells, AV.ref, List.foldl, List.all, List.map, List.set, List.take, List.drop, Option.getD, Option.map, if_true, if_false, Nat.reduceEqDiff, Nat.reduceAdd, Nat.reduceLT, Nat.reduceLeDiff, reduceCtorEq, ↓reduceIte, pickAV, lenAV, intAV, slcA, slcAV, iaddrAV, extAV, fldAV, eqCells, eqCell, contAV, appendAV, foldAV, maxI, minI, Option.some.injEq, catT, wrap_nat m (by omega)]
            refine hK _ _ _ nofun ?_
            clear hK K
            intro al hal
            exact ⟨m + 1, by omega, by omega, Fgt.ofx hal (Fgt.mk' 1 (by simp) (by simp [keepB, Am.get, AV.lt, ltL, lt_pts, pts, ltL_pt]) rfl ⟨by simp only [Blk.lt, ltL_ix], trivial⟩)⟩
      · refine CWx.r fun K hK => ?_
        simp (maxSteps := 4000000) only [amC, amX, evsA, evpA, elemsA, elemsP, sizedA, optA, refA, consO, Am.get, AV.elem, AV.cells, AV.one, hsetL, hset, hget, loadAV, rowAt?, loadCells', faddrAV, binAV, fillA, storeAV, AV.putCells, AV.ref, List.foldl, List.all, List.map, List.set, List.take, List.drop, Option.getD, Option.map, if_true, if_false, Nat.reduceEqDiff, Nat.reduceAdd, Nat.reduceLT, Nat.reduceLeDiff, reduceCtorEq, ↓reduceIte, pickAV, lenAV, intAV, slcA, slcAV, iaddrAV, extAV, fldAV, eqCells, eqCell, contAV, appendAV, foldAV, maxI, minI, Option.some.injEq, catT, hml]
        refine hK _ _ _ nofun ?_
        clear hK K
        refine CWx.seq ?_
        refine CWx.condF rfl (CWx.exit (CWx.go ?_))
        by_cases n3 : 2 < n
        · have n3' : (2 : Int) < (n : Int) := by omega
          have hgt : ¬ left (l.getD a (0, 0)) (l.getD b (0, 0)) (l.getD c (0, 0)) ≤ 0 := by
            have := T.turns (by omega) i (by omega)
            rw [← hn, ← hj, ← hk, ← ha, ← hb, ← hc] at this
            exact Int.not_le.2 this
          have k33 := c33 (all_ok hok am) (all_ok hok bm) (all_ok hok cm)
          refine CWx.r fun K hK => ?_
          simp (maxSteps := 4000000) only [amC, amX, evsA, evpA, elemsA, elemsP, sizedA, optA, refA, consO, Am.get, AV.elem, AV.cells, AV.one, hsetL, hset, hget, loadAV, rowAt?, loadCells', faddrAV, binAV, fillA, storeAV, AV.putCells, AV.ref, List.foldl, List.all, List.map, List.set, List.take, List.drop, Option.getD, Option.map, if_true, if_false, Nat.reduceEqDiff, Nat.reduceAdd, Nat.reduceLT, Nat.reduceLeDiff, reduceCtorEq, ↓reduceIte, pickAV, lenAV, intAV, slcA, slcAV, iaddrAV, extAV, fldAV, eqCells, eqCell, contAV, appendAV, foldAV, maxI, minI, Option.some.injEq, catT, n3', pts, am', bm', cm', Int.natCast_nonneg, Int.toNat_natCast, List.length_map, pa, pb, pc, pt, AV.cells, AV.elem, AV.one, List.all_cons, List.all_nil]
          refine RCx.view (fid := 33) (caps := []) rfl rfl rfl k33 rfl ?_
          simp (maxSteps := 4000000) only [amC, amX, evsA, evpA, elemsA, elemsP, sizedA, optA, refA, consO, Am.get, AV.elem, AV.cells, AV.one, hsetL, hset, hget, loadAV, rowAt?, loadCells', faddrAV, binAV, fillA, storeAV, AV.putCells, AV.ref, List.foldl, List.all, List.map, List.set, List.take, List.drop, Option.getD, Option.map, if_true, if_false, Nat.reduceEqDiff, Nat.reduceAdd, Nat.reduceLT, Nat.reduceLeDiff, reduceCtorEq, ↓reduceIte, pickAV, lenAV, intAV, slcA, slcAV, iaddrAV, extAV, fldAV, eqCells, eqCell, contAV, appendAV, foldAV, maxI, minI, Option.some.injEq, catT, hgt]
          refine hK _ _ _ (fun _ => rfl) ?_
          clear hK K
          refine CWx.condF rfl (CWx.skip (CWx.go ?_))
          refine CWx.e fun K hK => ?_
          simp (maxSteps := 4000000) only [amC, amX, evsA, evpA, elemsA, elemsP, sizedA, optA, refA, consO, Am.get, AV.elem, AV.cells, AV.one, hsetL, hset, hget, loadAV, rowAt?, loadCells', faddrAV, binAV, fillA, storeAV, AV.putCells, AV.ref, List.foldl, List.all, List.map, List.set, List.take, List.drop, Option.getD, Option.map, if_true, if_false, Nat.reduceEqDiff, Nat.reduceAdd, Nat.reduceLT, Nat.reduceLeDiff, reduceCtorEq, ↓reduceIte, pickAV, lenAV, intAV, slcA, slcAV, iaddrAV, extAV, fldAV, eqCells, eqCell, contAV, appendAV, foldAV, maxI, minI, Option.some.injEq, catT, wrap_nat i (by omega)]
          refine hK _ _ _ nofun ?_
          clear hK K
          intro al hal
          exact ⟨i + 1, by omega, by omega, Fgt.ofx hal (Fgt.mk' 1 (by simp) (by simp [keepB, Am.get, AV.lt, ltL, lt_pts, pts, ltL_pt]) rfl ⟨by simp only [Blk.lt, ltL_ix], trivial⟩)⟩
        · have n3' : ¬ (2 : Int) < (n : Int) := by omega
          refine CWx.r fun K hK => ?_
          simp (maxSteps := 4000000) only [amC, amX, evsA, evpA, elemsA, elemsP, sizedA, optA, refA, consO, Am.get, AV.elem, AV.cells, AV.one, hsetL, hset, hget, loadAV, rowAt?, loadCells', faddrAV, binAV, fillA, storeAV, AV.putCells, AV.ref, List.foldl, List.all, List.map, List.set, List.take, List.drop, Option.getD, Option.map, if_true, if_false, Nat.reduceEqDiff, Nat.reduceAdd, Nat.reduceLT, Nat.reduceLeDiff, reduceCtorEq, ↓reduceIte, pickAV, lenAV, intAV, slcA, slcAV, iaddrAV, extAV, fldAV, eqCells, eqCell, contAV, appendAV, foldAV, maxI, minI, Option.some.injEq, catT, n3']
          refine hK _ _ _ (fun _ => rfl) ?_
          clear hK K
          refine CWx.condF rfl (CWx.skip (CWx.go ?_))
          refine CWx.e fun K hK => ?_
          simp (maxSteps := 4000000) only [amC, amX, evsA, evpA, elemsA, elemsP, sizedA, optA, refA, consO, Am.get, AV.elem, AV.cells, AV.one, hsetL, hset, hget, loadAV, rowAt?, loadCells', faddrAV, binAV, fillA, storeAV, AV.putCells, AV.ref, List.foldl, List.all, List.map, List.set, List.take, List.drop, Option.getD, Option.map, if_true, if_false, Nat.reduceEqDiff, Nat.reduceAdd, Nat.reduceLT, Nat.reduceLeDiff, reduceCtorEq, ↓reduceIte, pickAV, lenAV, intAV, slcA, slcAV, iaddrAV, extAV, fldAV, eqCells, eqCell, contAV, appendAV, foldAV, maxI, minI, Option.some.injEq, catT, wrap_nat i (by omega)]
          refine hK _ _ _ nofun ?_
          clear hK K
          intro al hal
          exact ⟨i + 1, by omega, by omega, Fgt.ofx hal (Fgt.mk' 1 (by simp) (by simp [keepB, Am.get, AV.lt, ltL, lt_pts, pts, ltL_pt]) rfl ⟨by simp only [Blk.lt, ltL_ix], trivial⟩)⟩
    · refine CWx.r fun K hK => ?_
      simp (maxSteps := 4000000) only [amC, amX, evsA, evpA, elemsA, elemsP, sizedA, optA, refA, consO, Am.get, AV.elem, AV.cells, AV.one, hsetL, hset, hget, loadAV, rowAt?, loadCells', faddrAV, binAV, fillA, storeAV, AV.putCells, AV.ref, List.foldl, List.all, List.map, List.set, List.take, List.drop, Option.getD, Option.map, if_true, if_false, Nat.reduceEqDiff, Nat.reduceAdd, Nat.reduceLT, Nat.reduceLeDiff, reduceCtorEq, ↓reduceIte, pickAV, lenAV, intAV, slcA, slcAV, iaddrAV, extAV, fldAV, eqCells, eqCell, contAV, appendAV, foldAV, maxI, minI, Option.some.injEq, catT, h]
      refine hK _ _ _ nofun ?_
      clear hK K
      refine CWx.seq ?_
      refine CWx.condF rfl (CWx.exit (CWx.go ?_))
      refine CWx.r fun K hK => ?_
      simp (maxSteps := 4000000) only [amC, amX, evsA, evpA, elemsA, elemsP, sizedA, optA, refA, consO, Am.get, AV.elem, AV.cells, AV.one, hsetL, hset, hget, loadAV, rowAt?, loadCells', faddrAV, binAV, fillA, storeAV, AV.putCells, AV.ref, List.foldl, List.all, List.map, List.set, List.take, List.drop, Option.getD, Option.map, if_true, if_false, Nat.reduceEqDiff, Nat.reduceAdd, Nat.reduceLT, Nat.reduceLeDiff, reduceCtorEq, ↓reduceIte, pickAV, lenAV, intAV, slcA, slcAV, iaddrAV, extAV, fldAV, eqCells, eqCell, contAV, appendAV, foldAV, maxI, minI, Option.some.injEq, catT]
      refine RCx.view (fid := 12) (caps := []) rfl rfl rfl Aw.x_awake rfl ?_
      simp (maxSteps := 4000000) only [amC, amX, evsA, evpA, elemsA, elemsP, sizedA, optA, refA, consO, Am.get, AV.elem, AV.cells, AV.one, hsetL, hset, hget, loadAV, rowAt?, loadCells', faddrAV, binAV, fillA, storeAV, AV.putCells, AV.ref, List.foldl, List.all, List.map, List.set, List.take, List.drop, Option.getD, Option.map, if_true, if_false, Nat.reduceEqDiff, Nat.reduceAdd, Nat.reduceLT, Nat.reduceLeDiff, reduceCtorEq, ↓reduceIte, pickAV, lenAV, intAV, slcA, slcAV, iaddrAV, extAV, fldAV, eqCells, eqCell, contAV, appendAV, foldAV, maxI, minI, Option.some.injEq, catT]
      refine hK _ _ _ nofun ?_
      clear hK K
      exact CWx.ret fun al hal => finK_ext hal (finK_pure (.inr rfl) (xs := [.bool true]) (by simp [resRV, Am.get]) rfl rfl)
  · have hf : (decide (0 < l.length) && (decide (l.length ≤ 8) && (chk l == 0))) = false := by simpa using hr
    have k25 := c25 l
    rw [hf] at k25
    refine callsF_cwx hm hf7 (by simp [cf7]) ?_
    simp only [cf7, argsAl]
    refine CWx.r fun K hK => ?_
    simp (maxSteps := 4000000) only [amC, amX, evsA, evpA, elemsA, elemsP, sizedA, optA, refA, consO, Am.get, AV.elem, AV.cells, AV.one, hsetL, hset, hget, loadAV, rowAt?, loadCells', faddrAV, binAV, fillA, storeAV, AV.putCells, AV.ref, List.foldl, List.all, List.map, List.set, List.take, List.drop, Option.getD, Option.map, if_true, if_false, Nat.reduceEqDiff, Nat.reduceAdd, Nat.reduceLT, Nat.reduceLeDiff, reduceCtorEq, ↓reduceIte, pickAV, lenAV, intAV, slcA, slcAV, iaddrAV, extAV, fldAV, eqCells, eqCell, contAV, appendAV, foldAV, maxI, minI, Option.some.injEq, catT]
    refine hK _ _ _ nofun ?_
    clear hK K
    refine CWx.seq ?_
    refine CWx.r fun K hK => ?_
    simp (maxSteps := 4000000) only [amC, amX, evsA, evpA, elemsA, elemsP, sizedA, optA, refA, consO, Am.get, AV.elem, AV.cells, AV.one, hsetL, hset, hget, loadAV, rowAt?, loadCells', faddrAV, binAV, fillA, storeAV, AV.putCells, AV.ref, List.foldl, List.all, List.map, List.set, List.take, List.drop, Option.getD, Option.map, if_true, if_false, Nat.reduceEqDiff, Nat.reduceAdd, Nat.reduceLT, Nat.reduceLeDiff, reduceCtorEq, ↓reduceIte, pickAV, lenAV, intAV, slcA, slcAV, iaddrAV, extAV, fldAV, eqCells, eqCell, contAV, appendAV, foldAV, maxI, minI, Option.some.injEq, catT]
    refine RCx.view (fid := 25) (caps := []) rfl rfl (viewArgs_flat1 (flat_pts l 2)) k25 rfl ?_
    simp (maxSteps := 4000000) only [amC, amX, evsA, evpA, elemsA, elemsP, sizedA, optA, refA, consO, Am.get, AV.elem, AV.cells, AV.one, hsetL, hset, hget, loadAV, rowAt?, loadCells', faddrAV, binAV, fillA, storeAV, AV.putCells, AV.ref, List.foldl, List.all, List.map, List.set, List.take, List.drop, Option.getD, Option.map, if_true, if_false, Nat.reduceEqDiff, Nat.reduceAdd, Nat.reduceLT, Nat.reduceLeDiff, reduceCtorEq, ↓reduceIte, pickAV, lenAV, intAV, slcA, slcAV, iaddrAV, extAV, fldAV, eqCells, eqCell, contAV, appendAV, foldAV, maxI, minI, Option.some.injEq, catT]
    refine hK _ _ _ nofun ?_
    clear hK K
    refine CWx.condT rfl ?_
    refine CWx.r fun K hK => ?_
    simp (maxSteps := 4000000) only [amC, amX, evsA, evpA, elemsA, elemsP, sizedA, optA, refA, consO, Am.get, AV.elem, AV.cells, AV.one, hsetL, hset, hget, loadAV, rowAt?, loadCells', faddrAV, binAV, fillA, storeAV, AV.putCells, AV.ref, List.foldl, List.all, List.map, List.set, List.take, List.drop, Option.getD, Option.map, if_true, if_false, Nat.reduceEqDiff, Nat.reduceAdd, Nat.reduceLT, Nat.reduceLeDiff, reduceCtorEq, ↓reduceIte, pickAV, lenAV, intAV, slcA, slcAV, iaddrAV, extAV, fldAV, eqCells, eqCell, contAV, appendAV, foldAV, maxI, minI, Option.some.injEq, catT]
    refine RCx.view (fid := 12) (caps := []) rfl rfl rfl Aw.x_awake rfl ?_
    simp (maxSteps := 4000000) only [amC, amX, evsA, evpA, elemsA, elemsP, sizedA, optA, refA, consO, Am.get, AV.elem, AV.cells, AV.one, hsetL, hset, hget, loadAV, rowAt?, loadCells', faddrAV, binAV, fillA, storeAV, AV.putCells, AV.ref, List.foldl, List.all, List.map, List.set, List.take, List.drop, Option.getD, Option.map, if_true, if_false, Nat.reduceEqDiff, Nat.reduceAdd, Nat.reduceLT, Nat.reduceLeDiff, reduceCtorEq, ↓reduceIte, pickAV, lenAV, intAV, slcA, slcAV, iaddrAV, extAV, fldAV, eqCells, eqCell, contAV, appendAV, foldAV, maxI, minI, Option.some.injEq, catT]
    refine hK _ _ _ nofun ?_
    clear hK K
    exact CWx.ret fun al hal => finK_ext hal (finK_pure (.inr rfl) (xs := [.bool true]) (by simp [resRV, Am.get]) rfl rfl)
end Go.Hull
