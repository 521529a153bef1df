/- Sorting by insertion: walks.
   Conditions: the numbers that are sorted are those of points. -/
import Derived.Test.YtkbpkbjfphdgeaaHW4
set_option linter.unusedSimpArgs false
set_option linter.unusedVariables false
set_option maxHeartbeats 2000000
namespace Go.Hull
open Go Go.Am Go.Proofs

def ix (xs : List Nat) : List AV := xs.map fun (n : Nat) => .int .i64 (n : Int)
theorem ix_length (xs : List Nat) : (ix xs).length = xs.length := by simp [ix]
theorem ix_get (xs : List Nat) {i : Nat} (h : i < xs.length) : (ix xs)[i]? = some (.int .i64 ((xs.getD i 0 : Nat) : Int)) := by
  simp [ix, List.getD_eq_getElem?_getD, List.getElem?_eq_getElem h]
theorem ix_set (xs : List Nat) (i n : Nat) : (ix xs).set i (.int .i64 (n : Int)) = ix (xs.set i n) := by simp [ix, List.map_set]
theorem ix_take (xs : List Nat) (n : Nat) : (ix xs).take n = ix (xs.take n) := by simp [ix]
theorem ix_drop (xs : List Nat) (n : Nat) : (ix xs).drop n = ix (xs.drop n) := by simp [ix]
theorem ltL_ix (xs : List Nat) (m : Nat) : ltL m (ix xs) = true := by
  induction xs with
  | nil => rfl
  | cons x xs ih => simp only [ix, List.map_cons, ltL, AV.lt, Bool.true_and]; exact ih
theorem allRL_ix (xs : List Nat) (p : Nat → Nat → Bool) (q : Bool) : allRL p q (ix xs) = true := by
  induction xs with
  | nil => rfl
  | cons x xs ih => simp only [ix, List.map_cons, allRL, AV.allR, Bool.true_and]; exact ih
theorem cleanL_ix (xs : List Nat) : cleanL (ix xs) = true := by
  induction xs with
  | nil => rfl
  | cons x xs ih => simp only [ix, List.map_cons, cleanL, AV.clean, Bool.true_and]; exact ih

def lessB (l : List Pt) (a b : Nat) : Bool := decide (cmpP (l.getD a (0, 0)) (l.getD b (0, 0)) < 0)

def inner (lt : Nat → Nat → Bool) : Nat → List Nat → List Nat
  | 0, xs => xs
  | j + 1, xs => if lt (xs.getD (j + 1) 0) (xs.getD j 0) = true then inner lt j ((xs.set (j + 1) (xs.getD j 0)).set j (xs.getD (j + 1) 0)) else xs
def outer (lt : Nat → Nat → Bool) : Nat → Nat → List Nat → List Nat
  | 0, _, xs => xs
  | k + 1, i, xs => outer lt k (i + 1) (inner lt i xs)
def insort (lt : Nat → Nat → Bool) (xs : List Nat) : List Nat := outer lt (xs.length - 1) 1 xs

theorem inner_length (lt : Nat → Nat → Bool) : ∀ (j : Nat) (xs : List Nat), (inner lt j xs).length = xs.length := by
  intro j
  induction j with
  | zero => intro xs; rfl
  | succ j ih => intro xs; simp only [inner]; split <;> simp [ih]
theorem inner_mem (lt : Nat → Nat → Bool) {n : Nat} : ∀ (j : Nat) (xs : List Nat), j < xs.length → (∀ x ∈ xs, x < n) → ∀ x ∈ inner lt j xs, x < n := by
  intro j
  induction j with
  | zero => intro xs _ h; exact h
  | succ j ih =>
    intro xs hj h
    simp only [inner]
    split
    · refine ih _ (by simp; omega) fun x hx => ?_
      have g : ∀ k, k < xs.length → xs.getD k 0 < n := fun k hk => h _ (by rw [List.getD_eq_getElem?_getD, List.getElem?_eq_getElem hk]; simp)
      rcases List.mem_or_eq_of_mem_set hx with h1 | h1
      · rcases List.mem_or_eq_of_mem_set h1 with h2 | h2
        · exact h x h2
        · rw [h2]; exact g j (by omega)
      · rw [h1]; exact g (j + 1) hj
    · exact h

theorem wrap_pred (j : Nat) (h : j < 4611686018427387904) : IntKind.i64.wrap (((j + 1 : Nat) : Int) - 1) = (j : Int) := by
  rw [IntWalk.i64_in]
  · omega
  · omega

theorem flat_rp (l : List Pt) : flatN true 5 (.rp true [pts l]) = true := by
  simp only [flatN, allB, flat_pts l 1]

theorem getp {l : List Pt} {k : Nat} (h : k < l.length) : l[k]? = some (l.getD k (0, 0)) := by
  simp [List.getD_eq_getElem?_getD, List.getElem?_eq_getElem h]
theorem getD_lt {n : Nat} {xs : List Nat} (h : ∀ x ∈ xs, x < n) {k : Nat} (hk : k < xs.length) : xs.getD k 0 < n := h _ (by rw [List.getD_eq_getElem?_getD, List.getElem?_eq_getElem hk]; simp)

theorem c127 (l : List Pt) (g : Nat) (xs : List Nat) (hx : ∀ x ∈ xs, x < l.length) (hn : xs.length < 4611686018427387904) :
    CallsF Try.prog 127 [.sl 0 g 0 xs.length, .int .i64 0, .int .i64 (xs.length : Int), .clo 105 [.rp true [pts l]]] [.row false g false 1 (ix xs)] (.tup []) [.row false g false 1 (ix (insort (lessB l) xs))] := by
  refine callsF_cw hm hf127 (by simp [cf127]) ?_
  simp only [cf127, argsAl]
  refine CW.rI fun K hK => ?_
  simp (maxSteps := 4000000) only [amC, amR, evsA, evpA, elemsA, elemsP, sizedA, optA, refA, setO, Am.set, Am.get, AV.elem, AV.cells, AV.one, hsetL, hset, hget, loadAV, rowAt?, loadCells', faddrAV, binAV, fillA, storeAV, AV.putCells, AV.ref, List.foldl, List.all, List.map, List.set, List.take, List.drop, Option.getD, Option.map, if_true, if_false, Nat.reduceEqDiff, Nat.reduceAdd, Nat.reduceLT, Nat.reduceLeDiff, reduceCtorEq, ↓reduceIte, pickAV, lenAV, intAV, slcA, slcAV, iaddrAV, extAV, fldAV, eqCells, eqCell, contAV, appendAV, foldAV, maxI, minI, Option.some.injEq, catT, show IntKind.i64.wrap ((0 : Int) + 1) = ((1 : Nat) : Int) from by decide]
  refine hK _ _ nofun ?_
  clear hK K
  refine CW.block ?_
  refine CW.loopF (fun q : Nat × List Nat => xs.length - q.1) (fun q => ⟨[(0, .sl 0 g 0 xs.length), (1, .int .i64 0), (2, .int .i64 (xs.length : Int)), (3, .clo 105 [.rp true [pts l]]), (8, .int .i64 (q.1 : Int))], [.row false g false 1 (ix q.2)]⟩)
    (fun q => 1 ≤ q.1 ∧ (q.1 ≤ xs.length ∨ q.1 = 1) ∧ q.2.length = xs.length ∧ (∀ x ∈ q.2, x < l.length) ∧ outer (lessB l) (xs.length - q.1) q.1 q.2 = insort (lessB l) xs) (fun q hq => ?_) (1, xs) ⟨Nat.le_refl _, .inr rfl, rfl, hx, rfl⟩ _ (Fgt.mk' 1 (by simp) (by simp [keepB, Am.get, AV.lt, ltL, lt_pts]) rfl ⟨by simp only [Blk.lt, ltL_ix], trivial⟩)
  obtain ⟨i, ys⟩ := q
  obtain ⟨hi1, hi2, hlen, hmem, hout⟩ := hq
  simp only at hi1 hi2 hlen hmem hout
  refine CW.seq ?_
  by_cases hi : (i : Int) < (xs.length : Int)
  · refine CW.rI fun K hK => ?_
    simp (maxSteps := 4000000) only [amC, amR, evsA, evpA, elemsA, elemsP, sizedA, optA, refA, setO, Am.set, Am.get, AV.elem, AV.cells, AV.one, hsetL, hset, hget, loadAV, rowAt?, loadCells', faddrAV, binAV, fillA, storeAV, AV.putCells, AV.ref, List.foldl, List.all, List.map, List.set, List.take, List.drop, Option.getD, Option.map, if_true, if_false, Nat.reduceEqDiff, Nat.reduceAdd, Nat.reduceLT, Nat.reduceLeDiff, reduceCtorEq, ↓reduceIte, pickAV, lenAV, intAV, slcA, slcAV, iaddrAV, extAV, fldAV, eqCells, eqCell, contAV, appendAV, foldAV, maxI, minI, Option.some.injEq, catT, hi]
    refine hK _ _ nofun ?_
    clear hK K
    refine CW.condT rfl (CW.skip ?_)
    show CW _ _ _ _ _ _
    refine CW.seq ?_
    refine CW.block ?_
    refine CW.rI fun K hK => ?_
    simp (maxSteps := 4000000) only [amC, amR, evsA, evpA, elemsA, elemsP, sizedA, optA, refA, setO, Am.set, Am.get, AV.elem, AV.cells, AV.one, hsetL, hset, hget, loadAV, rowAt?, loadCells', faddrAV, binAV, fillA, storeAV, AV.putCells, AV.ref, List.foldl, List.all, List.map, List.set, List.take, List.drop, Option.getD, Option.map, if_true, if_false, Nat.reduceEqDiff, Nat.reduceAdd, Nat.reduceLT, Nat.reduceLeDiff, reduceCtorEq, ↓reduceIte, pickAV, lenAV, intAV, slcA, slcAV, iaddrAV, extAV, fldAV, eqCells, eqCell, contAV, appendAV, foldAV, maxI, minI, Option.some.injEq, catT]
    refine hK _ _ nofun ?_
    clear hK K
    refine CW.block ?_
    refine CW.loopF (fun q : Nat × List Nat => q.1) (fun q => ⟨[(0, .sl 0 g 0 xs.length), (1, .int .i64 0), (2, .int .i64 (xs.length : Int)), (3, .clo 105 [.rp true [pts l]]), (8, .int .i64 (i : Int)), (9, .int .i64 (q.1 : Int))], [.row false g false 1 (ix q.2)]⟩)
      (fun q => q.1 ≤ i ∧ q.2.length = xs.length ∧ (∀ x ∈ q.2, x < l.length) ∧ inner (lessB l) q.1 q.2 = inner (lessB l) i ys) (fun q hq => ?_) (i, ys) ⟨Nat.le_refl _, hlen, hmem, rfl⟩ _ (Fgt.mk' 1 (by simp) (by simp [keepB, Am.get, AV.lt, ltL, lt_pts]) rfl ⟨by simp only [Blk.lt, ltL_ix], trivial⟩)
    obtain ⟨j, zs⟩ := q
    obtain ⟨hj, hzl, hzm, hin⟩ := hq
    simp only at hj hzl hzm hin
    refine CW.seq ?_
    have fin : inner (lessB l) j zs = zs → ∃ q : Nat × List Nat, xs.length - q.1 < xs.length - i ∧ (1 ≤ q.1 ∧ (q.1 ≤ xs.length ∨ q.1 = 1) ∧ q.2.length = xs.length ∧ (∀ x ∈ q.2, x < l.length) ∧ outer (lessB l) (xs.length - q.1) q.1 q.2 = insort (lessB l) xs) ∧ q = (i + 1, zs) := fun hz => by
      refine ⟨(i + 1, zs), by simp only; omega, ⟨by simp only; omega, .inl (by simp only; omega), hzl, hzm, ?_⟩, rfl⟩
      simp only
      rw [hz] at hin
      have e : xs.length - i = (xs.length - (i + 1)) + 1 := by omega
      rw [e] at hout
      simp only [outer] at hout
      rw [hin]; exact hout
    cases j with
    | zero =>
      refine CW.rI fun K hK => ?_
      simp (maxSteps := 4000000) only [amC, amR, evsA, evpA, elemsA, elemsP, sizedA, optA, refA, setO, Am.set, Am.get, AV.elem, AV.cells, AV.one, hsetL, hset, hget, loadAV, rowAt?, loadCells', faddrAV, binAV, fillA, storeAV, AV.putCells, AV.ref, List.foldl, List.all, List.map, List.set, List.take, List.drop, Option.getD, Option.map, if_true, if_false, Nat.reduceEqDiff, Nat.reduceAdd, Nat.reduceLT, Nat.reduceLeDiff, reduceCtorEq, ↓reduceIte, pickAV, lenAV, intAV, slcA, slcAV, iaddrAV, extAV, fldAV, eqCells, eqCell, contAV, appendAV, foldAV, maxI, minI, Option.some.injEq, catT, show ¬ ((0 : Int) < ((0 : Nat) : Int)) from by decide]
      refine hK _ _ (fun _ => rfl) ?_
      clear hK K
      refine CW.condF rfl (CW.exit ?_)
      show CW _ _ _ _ _ _
      refine CW.rE fun K hK => ?_
      simp (maxSteps := 4000000) only [amC, amR, evsA, evpA, elemsA, elemsP, sizedA, optA, refA, setO, Am.set, Am.get, AV.elem, AV.cells, AV.one, hsetL, hset, hget, loadAV, rowAt?, loadCells', faddrAV, binAV, fillA, storeAV, AV.putCells, AV.ref, List.foldl, List.all, List.map, List.set, List.take, List.drop, Option.getD, Option.map, if_true, if_false, Nat.reduceEqDiff, Nat.reduceAdd, Nat.reduceLT, Nat.reduceLeDiff, reduceCtorEq, ↓reduceIte, pickAV, lenAV, intAV, slcA, slcAV, iaddrAV, extAV, fldAV, eqCells, eqCell, contAV, appendAV, foldAV, maxI, minI, Option.some.injEq, catT, wrap_nat i (by omega)]
      refine hK _ _ nofun ?_
      clear hK K
      obtain ⟨q, h1, h2, rfl⟩ := fin rfl
      exact ⟨_, h1, h2, Fgt.mk' 1 (by simp) (by simp [keepB, Am.get, AV.lt, ltL, lt_pts]) rfl ⟨by simp only [Blk.lt, ltL_ix], trivial⟩⟩
    | succ j =>
      have hj1 : j + 1 < zs.length := by omega
      have g1 := ix_get zs hj1
      have g0 := ix_get zs (show j < zs.length by omega)
      have b1 := getD_lt hzm hj1
      have b0 := getD_lt hzm (show j < zs.length by omega)
      have w1 := wrap_pred j (by omega)
      have p0 : (0 : Int) < ((j + 1 : Nat) : Int) := by omega
      have p1 : ((j + 1 : Nat) : Int) < ((xs.length : Nat) : Int) := by omega
      have p2 : (0 : Int) ≤ ((j + 1 : Nat) : Int) := by omega
      have p3 : ((j : Nat) : Int) < ((xs.length : Nat) : Int) := by omega
      have p4 : (0 : Int) ≤ ((j : Nat) : Int) := by omega
      by_cases hc : cmpP (l.getD (zs.getD (j + 1) 0) (0, 0)) (l.getD (zs.getD j 0) (0, 0)) < 0
      · refine CW.rI fun K hK => ?_
        simp (maxSteps := 4000000) only [amC, amR, evsA, evpA, elemsA, elemsP, sizedA, optA, refA, setO, Am.set, Am.get, AV.elem, AV.cells, AV.one, hsetL, hset, hget, loadAV, rowAt?, loadCells', faddrAV, binAV, fillA, storeAV, AV.putCells, AV.ref, List.foldl, List.all, List.map, List.set, List.take, List.drop, Option.getD, Option.map, if_true, if_false, Nat.reduceEqDiff, Nat.reduceAdd, Nat.reduceLT, Nat.reduceLeDiff, reduceCtorEq, ↓reduceIte, pickAV, lenAV, intAV, slcA, slcAV, iaddrAV, extAV, fldAV, eqCells, eqCell, contAV, appendAV, foldAV, maxI, minI, Option.some.injEq, catT, p0, p1, p2, p3, p4, w1, Int.toNat_natCast, g1, g0, AV.cells]
        refine RunCall.view (fid := 105) (caps := [.rp true [pts l]]) rfl rfl (viewArgs_flat3 rfl rfl (flat_rp l)) (c105 (getp b1) (getp b0)) rfl ?_
        simp (maxSteps := 4000000) only [amC, amR, evsA, evpA, elemsA, elemsP, sizedA, optA, refA, setO, Am.set, Am.get, AV.elem, AV.cells, AV.one, hsetL, hset, hget, loadAV, rowAt?, loadCells', faddrAV, binAV, fillA, storeAV, AV.putCells, AV.ref, List.foldl, List.all, List.map, List.set, List.take, List.drop, Option.getD, Option.map, if_true, if_false, Nat.reduceEqDiff, Nat.reduceAdd, Nat.reduceLT, Nat.reduceLeDiff, reduceCtorEq, ↓reduceIte, pickAV, lenAV, intAV, slcA, slcAV, iaddrAV, extAV, fldAV, eqCells, eqCell, contAV, appendAV, foldAV, maxI, minI, Option.some.injEq, catT, hc]
        refine hK _ _ (fun _ => rfl) ?_
        clear hK K
        refine CW.condT rfl (CW.skip ?_)
        show CW _ _ _ _ _ _
        refine CW.seq ?_
        refine CW.block ?_
        refine CW.rE fun K hK => ?_
        simp (maxSteps := 4000000) only [amC, amR, evsA, evpA, elemsA, elemsP, sizedA, optA, refA, setO, Am.set, Am.get, AV.elem, AV.cells, AV.one, hsetL, hset, hget, loadAV, rowAt?, loadCells', faddrAV, binAV, fillA, storeAV, AV.putCells, AV.ref, List.foldl, List.all, List.map, List.set, List.take, List.drop, Option.getD, Option.map, if_true, if_false, Nat.reduceEqDiff, Nat.reduceAdd, Nat.reduceLT, Nat.reduceLeDiff, reduceCtorEq, ↓reduceIte, pickAV, lenAV, intAV, slcA, slcAV, iaddrAV, extAV, fldAV, eqCells, eqCell, contAV, appendAV, foldAV, maxI, minI, Option.some.injEq, catT, p0, p1, p2, p3, p4, w1, Int.toNat_natCast, g1, g0, AV.cells, AV.elem, AV.one, List.all_cons, List.all_nil, ix_set, ix_get (zs.set (j + 1) (zs.getD j 0)) (show j < (zs.set (j + 1) (zs.getD j 0)).length by simp; omega)]
        refine hK _ _ (fun _ => rfl) ?_
        clear hK K
        refine CW.rE fun K hK => ?_
        simp (maxSteps := 4000000) only [amC, amR, evsA, evpA, elemsA, elemsP, sizedA, optA, refA, setO, Am.set, Am.get, AV.elem, AV.cells, AV.one, hsetL, hset, hget, loadAV, rowAt?, loadCells', faddrAV, binAV, fillA, storeAV, AV.putCells, AV.ref, List.foldl, List.all, List.map, List.set, List.take, List.drop, Option.getD, Option.map, if_true, if_false, Nat.reduceEqDiff, Nat.reduceAdd, Nat.reduceLT, Nat.reduceLeDiff, reduceCtorEq, ↓reduceIte, pickAV, lenAV, intAV, slcA, slcAV, iaddrAV, extAV, fldAV, eqCells, eqCell, contAV, appendAV, foldAV, maxI, minI, Option.some.injEq, catT, w1]
        refine hK _ _ nofun ?_
        clear hK K
        refine ⟨(j, (zs.set (j + 1) (zs.getD j 0)).set j (zs.getD (j + 1) 0)), by simp only; omega, ⟨by simp only; omega, by simp [hzl], ?_, ?_⟩, Fgt.mk' 1 (by simp) (by simp [keepB, Am.get, AV.lt, ltL, lt_pts]) rfl ⟨by simp only [Blk.lt, ltL_ix], trivial⟩⟩
        · intro x hx
          rcases List.mem_or_eq_of_mem_set hx with h1 | h1
          · rcases List.mem_or_eq_of_mem_set h1 with h2 | h2
            · exact hzm x h2
            · rw [h2]; exact b0
          · rw [h1]; exact b1
        · rw [← hin]
          simp only [inner]
          rw [if_pos (by simp only [lessB, hc, decide_true])]
      · refine CW.rI fun K hK => ?_
        simp (maxSteps := 4000000) only [amC, amR, evsA, evpA, elemsA, elemsP, sizedA, optA, refA, setO, Am.set, Am.get, AV.elem, AV.cells, AV.one, hsetL, hset, hget, loadAV, rowAt?, loadCells', faddrAV, binAV, fillA, storeAV, AV.putCells, AV.ref, List.foldl, List.all, List.map, List.set, List.take, List.drop, Option.getD, Option.map, if_true, if_false, Nat.reduceEqDiff, Nat.reduceAdd, Nat.reduceLT, Nat.reduceLeDiff, reduceCtorEq, ↓reduceIte, pickAV, lenAV, intAV, slcA, slcAV, iaddrAV, extAV, fldAV, eqCells, eqCell, contAV, appendAV, foldAV, maxI, minI, Option.some.injEq, catT, p0, p1, p2, p3, p4, w1, Int.toNat_natCast, g1, g0, AV.cells]
        refine RunCall.view (fid := 105) (caps := [.rp true [pts l]]) rfl rfl (viewArgs_flat3 rfl rfl (flat_rp l)) (c105 (getp b1) (getp b0)) rfl ?_
        simp (maxSteps := 4000000) only [amC, amR, evsA, evpA, elemsA, elemsP, sizedA, optA, refA, setO, Am.set, Am.get, AV.elem, AV.cells, AV.one, hsetL, hset, hget, loadAV, rowAt?, loadCells', faddrAV, binAV, fillA, storeAV, AV.putCells, AV.ref, List.foldl, List.all, List.map, List.set, List.take, List.drop, Option.getD, Option.map, if_true, if_false, Nat.reduceEqDiff, Nat.reduceAdd, Nat.reduceLT, Nat.reduceLeDiff, reduceCtorEq, ↓reduceIte, pickAV, lenAV, intAV, slcA, slcAV, iaddrAV, extAV, fldAV, eqCells, eqCell, contAV, appendAV, foldAV, maxI, minI, Option.some.injEq, catT, hc]
        refine hK _ _ (fun _ => rfl) ?_
        clear hK K
        refine CW.condF rfl (CW.exit ?_)
        show CW _ _ _ _ _ _
        refine CW.rE fun K hK => ?_
        simp (maxSteps := 4000000) only [amC, amR, evsA, evpA, elemsA, elemsP, sizedA, optA, refA, setO, Am.set, Am.get, AV.elem, AV.cells, AV.one, hsetL, hset, hget, loadAV, rowAt?, loadCells', faddrAV, binAV, fillA, storeAV, AV.putCells, AV.ref, List.foldl, List.all, List.map, List.set, List.take, List.drop, Option.getD, Option.map, if_true, if_false, Nat.reduceEqDiff, Nat.reduceAdd, Nat.reduceLT, Nat.reduceLeDiff, reduceCtorEq, ↓reduceIte, pickAV, lenAV, intAV, slcA, slcAV, iaddrAV, extAV, fldAV, eqCells, eqCell, contAV, appendAV, foldAV, maxI, minI, Option.some.injEq, catT, wrap_nat i (by omega)]
        refine hK _ _ nofun ?_
        clear hK K
        obtain ⟨q, h1, h2, rfl⟩ := fin (by simp only [inner]; rw [if_neg (by simp only [lessB, hc, decide_false]; simp)])
        exact ⟨_, h1, h2, Fgt.mk' 1 (by simp) (by simp [keepB, Am.get, AV.lt, ltL, lt_pts]) rfl ⟨by simp only [Blk.lt, ltL_ix], trivial⟩⟩
  · refine CW.rI fun K hK => ?_
    simp (maxSteps := 4000000) only [amC, amR, evsA, evpA, elemsA, elemsP, sizedA, optA, refA, setO, Am.set, Am.get, AV.elem, AV.cells, AV.one, hsetL, hset, hget, loadAV, rowAt?, loadCells', faddrAV, binAV, fillA, storeAV, AV.putCells, AV.ref, List.foldl, List.all, List.map, List.set, List.take, List.drop, Option.getD, Option.map, if_true, if_false, Nat.reduceEqDiff, Nat.reduceAdd, Nat.reduceLT, Nat.reduceLeDiff, reduceCtorEq, ↓reduceIte, pickAV, lenAV, intAV, slcA, slcAV, iaddrAV, extAV, fldAV, eqCells, eqCell, contAV, appendAV, foldAV, maxI, minI, Option.some.injEq, catT, hi]
    refine hK _ _ nofun ?_
    clear hK K
    refine CW.condF rfl (CW.exit ?_)
    have hys : ys = insort (lessB l) xs := by
      have e : xs.length - i = 0 := by omega
      rw [e] at hout
      exact hout
    subst hys
    exact finK_keep (.inl rfl) (xs := []) rfl rfl rfl (by simp) rfl (fun b hb => by rw [List.mem_singleton.1 hb]; simp only [Blk.allR, allRL_ix])
end Go.Hull
