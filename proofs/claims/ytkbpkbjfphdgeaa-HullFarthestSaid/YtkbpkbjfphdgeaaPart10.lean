/- Sorting by insertion: walks.
   Conditions: the numbers that are sorted are those of points. -/
import Derived.Test.YtkbpkbjfphdgeaaPart9
section
set_option linter.unusedSimpArgs false
set_option linter.unusedVariables false
set_option maxHeartbeats 2000000
namespace Go.Hull
open Go Go.Am Go.Proofs

def ix (xs : List Nat) : List AV := xs.map fun (n : Nat) => .int .i64 (n : Int)
theorem ix_length (xs : List Nat) : (ix xs).length = xs.length := by simp [ix]
theorem ix_get (xs : List Nat) {i : Nat} (h : i < xs.length) : (ix xs)[i]? = some (.int .i64 ((xs.getD i 0 : Nat) : Int)) := by
  simp [ix, List.getD_eq_getElem?_getD, List.getElem?_eq_getElem h]
theorem ix_set (xs : List Nat) (i n : Nat) : (ix xs).set i (.int .i64 (n : Int)) = ix (xs.set i n) := by simp [ix, List.map_set]
theorem ix_take (xs : List Nat) (n : Nat) : (ix xs).take n = ix (xs.take n) := by simp [ix]
theorem ix_drop (xs : List Nat) (n : Nat) : (ix xs).drop n = ix (xs.drop n) := by simp [ix]
theorem ltL_ix (xs : List Nat) (m : Nat) : ltL m (ix xs) = true := by
  induction xs with
  | nil => rfl
  | cons x xs ih => simp only [ix, List.map_cons, ltL, AV.lt, Bool.true_and]; exact ih
theorem allRL_ix (xs : List Nat) (p : Nat → Nat → Bool) (q : Bool) : allRL p q (ix xs) = true := by
  induction xs with
  | nil => rfl
  | cons x xs ih => simp only [ix, List.map_cons, allRL, AV.allR, Bool.true_and]; exact ih
theorem cleanL_ix (xs : List Nat) : cleanL (ix xs) = true := by
  induction xs with
  | nil => rfl
  | cons x xs ih => simp only [ix, List.map_cons, cleanL, AV.clean, Bool.true_and]; exact ih
def lessB (l : List Pt) (a b : Nat) : Bool := decide (cmpP (l.getD a (0, 0)) (l.getD b (0, 0)) < 0)
def inner (lt : Nat → Nat → Bool) : Nat → List Nat → List Nat
  | 0, xs => xs
  | j + 1, xs => if lt (xs.getD (j + 1) 0) (xs.getD j 0) = true then inner lt j ((xs.set (j + 1) (xs.getD j 0)).set j (xs.getD (j + 1) 0)) else xs
def outer (lt : Nat → Nat → Bool) : Nat → Nat → List Nat → List Nat
  | 0, _, xs => xs
  | k + 1, i, xs => outer lt k (i + 1) (inner lt i xs)
def insort (lt : Nat → Nat → Bool) (xs : List Nat) : List Nat := outer lt (xs.length - 1) 1 xs
theorem inner_length (lt : Nat → Nat → Bool) : ∀ (j : Nat) (xs : List Nat), (inner lt j xs).length = xs.length := by
  intro j
  induction j with
  | zero => intro xs; rfl
  | succ j ih => intro xs; simp only [inner]; split <;> simp [ih]
theorem inner_mem (lt : Nat → Nat → Bool) {n : Nat} : ∀ (j : Nat) (xs : List Nat), j < xs.length → (∀ x ∈ xs, x < n) → ∀ x ∈ inner lt j xs, x < n := by
  intro j
  induction j with
  | zero => intro xs _ h; exact h
  | succ j ih =>
    intro xs hj h
    simp only [inner]
    split
    · refine ih _ (by simp; omega) fun x hx => ?_
      have g : ∀ k, k < xs.length → xs.getD k 0 < n := fun k hk => h _ (by rw [List.getD_eq_getElem?_getD, List.getElem?_eq_getElem hk]; simp)
      rcases List.mem_or_eq_of_mem_set hx with h1 | h1
      · rcases List.mem_or_eq_of_mem_set h1 with h2 | h2
        · exact h x h2
        · rw [h2]; exact g j (by omega)
      · rw [h1]; exact g (j + 1) hj
    · exact h
theorem wrap_pred (j : Nat) (h : j < 4611686018427387904) : IntKind.i64.wrap (((j + 1 : Nat) : Int) - 1) = (j : Int) := by
  rw [IntWalk.i64_in]
  · omega
  · omega
theorem flat_rp (l : List Pt) : flatN true 5 (.rp true [pts l]) = true := by
  simp only [flatN, allB, flat_pts l 1]
theorem getp {l : List Pt} {k : Nat} (h : k < l.length) : l[k]? = some (l.getD k (0, 0)) := by
  simp [List.getD_eq_getElem?_getD, List.getElem?_eq_getElem h]
theorem getD_lt {n : Nat} {xs : List Nat} (h : ∀ x ∈ xs, x < n) {k : Nat} (hk : k < xs.length) : xs.getD k 0 < n := h _ (by rw [List.getD_eq_getElem?_getD, List.getElem?_eq_getElem hk]; simp)
theorem c127 (l : List Pt) (g : Nat) (xs : List Nat) (hx : ∀ x ∈ xs, x < l.length) (hn : xs.length < 4611686018427387904) :
    CallsF Try.prog 127 [.sl 0 g 0 xs.length, .int .i64 0, .int .i64 (xs.length : Int), .clo 105 [.rp true [pts l]]] [.row false g false 1 (ix xs)] (.tup []) [.row false g false 1 (ix (insort (lessB l) xs))] := by
  refine callsF_cw hm hf127 (by simp [cf127]) ?_
  simp only [cf127, argsAl]
  refine CW.rI fun K hK => ?_
  simp (maxSteps := 4000000) only [amC, amR, setO, Am.set, dr3, dr4, AV.elem, AV.cells, AV.one, loadAV, faddrAV, binAV, storeAV, AV.putCells, AV.ref, if_true, if_false, Nat.reduceEqDiff, Nat.reduceAdd, Nat.reduceLT, Nat.reduceLeDiff, reduceCtorEq, ↓reduceIte, pickAV, lenAV, intAV, slcA, slcAV, iaddrAV, extAV, fldAV, eqCell, contAV, appendAV, maxI, minI, Option.some.injEq, catT, show IntKind.i64.wrap ((0 : Int) + 1) = ((1 : Nat) : Int) from by decide]
  refine hK _ _ nofun ?_
  clear hK K
  refine CW.block ?_
  refine CW.loopF (fun q : Nat × List Nat => xs.length - q.1) (fun q => ⟨[(0, .sl 0 g 0 xs.length), (1, .int .i64 0), (2, .int .i64 (xs.length : Int)), (3, .clo 105 [.rp true [pts l]]), (8, .int .i64 (q.1 : Int))], [.row false g false 1 (ix q.2)]⟩)
    (fun q => 1 ≤ q.1 ∧ (q.1 ≤ xs.length ∨ q.1 = 1) ∧ q.2.length = xs.length ∧ (∀ x ∈ q.2, x < l.length) ∧ outer (lessB l) (xs.length - q.1) q.1 q.2 = insort (lessB l) xs) (fun q hq => ?_) (1, xs) ⟨Nat.le_refl _, .inr rfl, rfl, hx, rfl⟩ _ (Fgt.mk' 1 (by simp) (by simp [keepB, Am.get, AV.lt, ltL, lt_pts]) rfl ⟨by simp only [Blk.lt, ltL_ix], trivial⟩)
  obtain ⟨i, ys⟩ := q
  obtain ⟨hi1, hi2, hlen, hmem, hout⟩ := hq
  simp only at hi1 hi2 hlen hmem hout
  refine CW.seq ?_
  by_cases hi : (i : Int) < (xs.length : Int)
  · refine CW.rI fun K hK => ?_
    simp (maxSteps := 4000000) only [amC, amR, setO, Am.set, dr3, dr4, AV.elem, AV.cells, AV.one, loadAV, faddrAV, binAV, storeAV, AV.putCells, AV.ref, if_true, if_false, Nat.reduceEqDiff, Nat.reduceAdd, Nat.reduceLT, Nat.reduceLeDiff, reduceCtorEq, ↓reduceIte, pickAV, lenAV, intAV, slcA, slcAV, iaddrAV, extAV, fldAV, eqCell, contAV, appendAV, maxI, minI, Option.some.injEq, catT, hi]
    refine hK _ _ nofun ?_
    clear hK K
    refine CW.condT rfl (CW.skip ?_)
    show CW _ _ _ _ _ _
    refine CW.seq ?_
    refine CW.block ?_
    refine CW.rI fun K hK => ?_
    simp (maxSteps := 4000000) only [amC, amR, setO, Am.set, dr3, dr4, AV.elem, AV.cells, AV.one, loadAV, faddrAV, binAV, storeAV, AV.putCells, AV.ref, if_true, if_false, Nat.reduceEqDiff, Nat.reduceAdd, Nat.reduceLT, Nat.reduceLeDiff, reduceCtorEq, ↓reduceIte, pickAV, lenAV, intAV, slcA, slcAV, iaddrAV, extAV, fldAV, eqCell, contAV, appendAV, maxI, minI, Option.some.injEq, catT]
    refine hK _ _ nofun ?_
    clear hK K
    refine CW.block ?_
    refine CW.loopF (fun q : Nat × List Nat => q.1) (fun q => ⟨[(0, .sl 0 g 0 xs.length), (1, .int .i64 0), (2, .int .i64 (xs.length : Int)), (3, .clo 105 [.rp true [pts l]]), (8, .int .i64 (i : Int)), (9, .int .i64 (q.1 : Int))], [.row false g false 1 (ix q.2)]⟩)
      (fun q => q.1 ≤ i ∧ q.2.length = xs.length ∧ (∀ x ∈ q.2, x < l.length) ∧ inner (lessB l) q.1 q.2 = inner (lessB l) i ys) (fun q hq => ?_) (i, ys) ⟨Nat.le_refl _, hlen, hmem, rfl⟩ _ (Fgt.mk' 1 (by simp) (by simp [keepB, Am.get, AV.lt, ltL, lt_pts]) rfl ⟨by simp only [Blk.lt, ltL_ix], trivial⟩)
    obtain ⟨j, zs⟩ := q
    obtain ⟨hj, hzl, hzm, hin⟩ := hq
    simp only at hj hzl hzm hin
    refine CW.seq ?_
    have fin : inner (lessB l) j zs = zs → ∃ q : Nat × List Nat, xs.length - q.1 < xs.length - i ∧ (1 ≤ q.1 ∧ (q.1 ≤ xs.length ∨ q.1 = 1) ∧ q.2.length = xs.length ∧ (∀ x ∈ q.2, x < l.length) ∧ outer (lessB l) (xs.length - q.1) q.1 q.2 = insort (lessB l) xs) ∧ q = (i + 1, zs) := fun hz => by
      refine ⟨(i + 1, zs), by simp only; omega, ⟨by simp only; omega, .inl (by simp only; omega), hzl, hzm, ?_⟩, rfl⟩
      simp only
      rw [hz] at hin
      have e : xs.length - i = (xs.length - (i + 1)) + 1 := by omega
      rw [e] at hout
      simp only [outer] at hout
      rw [hin]; exact hout
    cases j with
    | zero =>
      refine CW.rI fun K hK => ?_
      simp (maxSteps := 4000000) only [amC, amR, setO, Am.set, dr3, dr4, AV.elem, AV.cells, AV.one, loadAV, faddrAV, binAV, storeAV, AV.putCells, AV.ref, if_true, if_false, Nat.reduceEqDiff, Nat.reduceAdd, Nat.reduceLT, Nat.reduceLeDiff, reduceCtorEq, ↓reduceIte, pickAV, lenAV, intAV, slcA, slcAV, iaddrAV, extAV, fldAV, eqCell, contAV, appendAV, maxI, minI, Option.some.injEq, catT, show ¬ ((0 : Int) < ((0 : Nat) : Int)) from by decide]
      refine hK _ _ (fun _ => rfl) ?_
      clear hK K
      refine CW.condF rfl (CW.exit ?_)
      show CW _ _ _ _ _ _
      refine CW.rE fun K hK => ?_
      simp (maxSteps := 4000000) only [amC, amR, setO, Am.set, dr3, dr4, AV.elem, AV.cells, AV.one, loadAV, faddrAV, binAV, storeAV, AV.putCells, AV.ref, if_true, if_false, Nat.reduceEqDiff, Nat.reduceAdd, Nat.reduceLT, Nat.reduceLeDiff, reduceCtorEq, ↓reduceIte, pickAV, lenAV, intAV, slcA, slcAV, iaddrAV, extAV, fldAV, eqCell, contAV, appendAV, maxI, minI, Option.some.injEq, catT, wrap_nat i (by omega)]
      refine hK _ _ nofun ?_
      clear hK K
      obtain ⟨q, h1, h2, rfl⟩ := fin rfl
      exact ⟨_, h1, h2, Fgt.mk' 1 (by simp) (by simp [keepB, Am.get, AV.lt, ltL, lt_pts]) rfl ⟨by simp only [Blk.lt, ltL_ix], trivial⟩⟩
    | succ j =>
      have hj1 : j + 1 < zs.length := by omega
      have g1 := ix_get zs hj1
      have g0 := ix_get zs (show j < zs.length by omega)
      have b1 := getD_lt hzm hj1
      have b0 := getD_lt hzm (show j < zs.length by omega)
      have w1 := wrap_pred j (by omega)
      have p0 : (0 : Int) < ((j + 1 : Nat) : Int) := by omega
      have p1 : ((j + 1 : Nat) : Int) < ((xs.length : Nat) : Int) := by omega
      have p2 : (0 : Int) ≤ ((j + 1 : Nat) : Int) := by omega
      have p3 : ((j : Nat) : Int) < ((xs.length : Nat) : Int) := by omega
      have p4 : (0 : Int) ≤ ((j : Nat) : Int) := by omega
      by_cases hc : cmpP (l.getD (zs.getD (j + 1) 0) (0, 0)) (l.getD (zs.getD j 0) (0, 0)) < 0
      · refine CW.rI fun K hK => ?_
        simp (maxSteps := 4000000) only [amC, amR, setO, Am.set, dr3, dr4, AV.elem, AV.cells, AV.one, loadAV, faddrAV, binAV, storeAV, AV.putCells, AV.ref, if_true, if_false, Nat.reduceEqDiff, Nat.reduceAdd, Nat.reduceLT, Nat.reduceLeDiff, reduceCtorEq, ↓reduceIte, pickAV, lenAV, intAV, slcA, slcAV, iaddrAV, extAV, fldAV, eqCell, contAV, appendAV, maxI, minI, Option.some.injEq, catT, p0, p1, p2, p3, p4, w1, Int.toNat_natCast, g1, g0, AV.cells]
        refine RunCall.view (fid := 105) (caps := [.rp true [pts l]]) rfl rfl (viewArgs_flat3 rfl rfl (flat_rp l)) (c105 (getp b1) (getp b0)) rfl ?_
        simp (maxSteps := 4000000) only [amC, amR, setO, Am.set, dr3, dr4, AV.elem, AV.cells, AV.one, loadAV, faddrAV, binAV, storeAV, AV.putCells, AV.ref, if_true, if_false, Nat.reduceEqDiff, Nat.reduceAdd, Nat.reduceLT, Nat.reduceLeDiff, reduceCtorEq, ↓reduceIte, pickAV, lenAV, intAV, slcA, slcAV, iaddrAV, extAV, fldAV, eqCell, contAV, appendAV, maxI, minI, Option.some.injEq, catT, hc]
        refine hK _ _ (fun _ => rfl) ?_
        clear hK K
        refine CW.condT rfl (CW.skip ?_)
        show CW _ _ _ _ _ _
        refine CW.seq ?_
        refine CW.block ?_
        refine CW.rE fun K hK => ?_
        simp (maxSteps := 4000000) only [amC, amR, setO, Am.set, dr3, dr4, AV.elem, AV.cells, AV.one, loadAV, faddrAV, binAV, storeAV, AV.putCells, AV.ref, if_true, if_false, Nat.reduceEqDiff, Nat.reduceAdd, Nat.reduceLT, Nat.reduceLeDiff, reduceCtorEq, ↓reduceIte, pickAV, lenAV, intAV, slcA, slcAV, iaddrAV, extAV, fldAV, eqCell, contAV, appendAV, maxI, minI, Option.some.injEq, catT, p0, p1, p2, p3, p4, w1, Int.toNat_natCast, g1, g0, AV.cells, AV.elem, AV.one, List.all_cons, List.all_nil, ix_set, ix_get (zs.set (j + 1) (zs.getD j 0)) (show j < (zs.set (j + 1) (zs.getD j 0)).length by simp; omega)]
        refine hK _ _ (fun _ => rfl) ?_
        clear hK K
        refine CW.rE fun K hK => ?_
        simp (maxSteps := 4000000) only [amC, amR, setO, Am.set, dr3, dr4, AV.elem, AV.cells, AV.one, loadAV, faddrAV, binAV, storeAV, AV.putCells, AV.ref, if_true, if_false, Nat.reduceEqDiff, Nat.reduceAdd, Nat.reduceLT, Nat.reduceLeDiff, reduceCtorEq, ↓reduceIte, pickAV, lenAV, intAV, slcA, slcAV, iaddrAV, extAV, fldAV, eqCell, contAV, appendAV, maxI, minI, Option.some.injEq, catT, w1]
        refine hK _ _ nofun ?_
        clear hK K
        refine ⟨(j, (zs.set (j + 1) (zs.getD j 0)).set j (zs.getD (j + 1) 0)), by simp only; omega, ⟨by simp only; omega, by simp [hzl], ?_, ?_⟩, Fgt.mk' 1 (by simp) (by simp [keepB, Am.get, AV.lt, ltL, lt_pts]) rfl ⟨by simp only [Blk.lt, ltL_ix], trivial⟩⟩
        · intro x hx
          rcases List.mem_or_eq_of_mem_set hx with h1 | h1
          · rcases List.mem_or_eq_of_mem_set h1 with h2 | h2
            · exact hzm x h2
            · rw [h2]; exact b0
          · rw [h1]; exact b1
        · rw [← hin]
          simp only [inner]
          rw [if_pos (by simp only [lessB, hc, decide_true])]
      · refine CW.rI fun K hK => ?_
        simp (maxSteps := 4000000) only [amC, amR, setO, Am.set, dr3, dr4, AV.elem, AV.cells, AV.one, loadAV, faddrAV, binAV, storeAV, AV.putCells, AV.ref, if_true, if_false, Nat.reduceEqDiff, Nat.reduceAdd, Nat.reduceLT, Nat.reduceLeDiff, reduceCtorEq, ↓reduceIte, pickAV, lenAV, intAV, slcA, slcAV, iaddrAV, extAV, fldAV, eqCell, contAV, appendAV, maxI, minI, Option.some.injEq, catT, p0, p1, p2, p3, p4, w1, Int.toNat_natCast, g1, g0, AV.cells]
        refine RunCall.view (fid := 105) (caps := [.rp true [pts l]]) rfl rfl (viewArgs_flat3 rfl rfl (flat_rp l)) (c105 (getp b1) (getp b0)) rfl ?_
        simp (maxSteps := 4000000) only [amC, amR, setO, Am.set, dr3, dr4, AV.elem, AV.cells, AV.one, loadAV, faddrAV, binAV, storeAV, AV.putCells, AV.ref, if_true, if_false, Nat.reduceEqDiff, Nat.reduceAdd, Nat.reduceLT, Nat.reduceLeDiff, reduceCtorEq, ↓reduceIte, pickAV, lenAV, intAV, slcA, slcAV, iaddrAV, extAV, fldAV, eqCell, contAV, appendAV, maxI, minI, Option.some.injEq, catT, hc]
        refine hK _ _ (fun _ => rfl) ?_
        clear hK K
        refine CW.condF rfl (CW.exit ?_)
        show CW _ _ _ _ _ _
        refine CW.rE fun K hK => ?_
        simp (maxSteps := 4000000) only [amC, amR, setO, Am.set, dr3, dr4, AV.elem, AV.cells, AV.one, loadAV, faddrAV, binAV, storeAV, AV.putCells, AV.ref, if_true, if_false, Nat.reduceEqDiff, Nat.reduceAdd, Nat.reduceLT, Nat.reduceLeDiff, reduceCtorEq, ↓reduceIte, pickAV, lenAV, intAV, slcA, slcAV, iaddrAV, extAV, fldAV, eqCell, contAV, appendAV, maxI, minI, Option.some.injEq, catT, wrap_nat i (by omega)]
        refine hK _ _ nofun ?_
        clear hK K
        obtain ⟨q, h1, h2, rfl⟩ := fin (by simp only [inner]; rw [if_neg (by simp only [lessB, hc, decide_false]; simp)])
        exact ⟨_, h1, h2, Fgt.mk' 1 (by simp) (by simp [keepB, Am.get, AV.lt, ltL, lt_pts]) rfl ⟨by simp only [Blk.lt, ltL_ix], trivial⟩⟩
  · refine CW.rI fun K hK => ?_
    simp (maxSteps := 4000000) only [amC, amR, setO, Am.set, dr3, dr4, AV.elem, AV.cells, AV.one, loadAV, faddrAV, binAV, storeAV, AV.putCells, AV.ref, if_true, if_false, Nat.reduceEqDiff, Nat.reduceAdd, Nat.reduceLT, Nat.reduceLeDiff, reduceCtorEq, ↓reduceIte, pickAV, lenAV, intAV, slcA, slcAV, iaddrAV, extAV, fldAV, eqCell, contAV, appendAV, maxI, minI, Option.some.injEq, catT, hi]
    refine hK _ _ nofun ?_
    clear hK K
    refine CW.condF rfl (CW.exit ?_)
    have hys : ys = insort (lessB l) xs := by
      have e : xs.length - i = 0 := by omega
      rw [e] at hout
      exact hout
    subst hys
    exact finK_keep (.inl rfl) (xs := []) rfl rfl rfl (by simp) rfl (fun b hb => by rw [List.mem_singleton.1 hb]; simp only [Blk.allR, allRL_ix])
end Go.Hull
end
section
set_option linter.unusedSimpArgs false
set_option linter.unusedVariables false
set_option maxHeartbeats 2000000
namespace Go.Hull
open Go Go.Am Go.Proofs

theorem insort_length (lt : Nat → Nat → Bool) (xs : List Nat) : (insort lt xs).length = xs.length := by
  have : ∀ (k i : Nat) (ys : List Nat), (outer lt k i ys).length = ys.length := by
    intro k
    induction k with
    | zero => intro i ys; rfl
    | succ k ih => intro i ys; simp only [outer]; rw [ih, inner_length]
  exact this _ _ _
theorem flat_cl (l : List Pt) (f : Nat) : flatN true 5 (.clo f [.rp true [pts l]]) = true := by
  simp only [flatN, allB, flat_pts l 0]
theorem c114 (l : List Pt) (g : Nat) (xs : List Nat) (hx : ∀ x ∈ xs, x < l.length) (hn : xs.length < 20) :
    CallsF Try.prog 114 [.sl 0 g 0 xs.length, .int .i64 (xs.length : Int), .clo 105 [.rp true [pts l]]] [.row false g false 1 (ix xs)] (.tup []) [.row false g false 1 (ix (insort (lessB l) xs))] := by
  have h20 : ¬ (20 : Int) ≤ (xs.length : Int) := by omega
  have h20' : ¬ (20 : Int) < (xs.length : Int) := by omega
  refine callsF_cw hm hf114 (by simp [cf114]) ?_
  simp only [cf114, argsAl]
  refine CW.rI fun K hK => ?_
  simp (maxSteps := 4000000) only [amC, amR, setO, Am.set, dr3, dr4, AV.elem, AV.cells, AV.one, loadAV, faddrAV, binAV, storeAV, AV.putCells, AV.ref, if_true, if_false, Nat.reduceEqDiff, Nat.reduceAdd, Nat.reduceLT, Nat.reduceLeDiff, reduceCtorEq, ↓reduceIte, pickAV, lenAV, intAV, slcA, slcAV, iaddrAV, extAV, fldAV, eqCell, contAV, appendAV, maxI, minI, Option.some.injEq, catT]
  refine hK _ _ nofun ?_
  clear hK K
  refine CW.rI fun K hK => ?_
  simp (maxSteps := 4000000) only [amC, amR, setO, Am.set, dr3, dr4, AV.elem, AV.cells, AV.one, loadAV, faddrAV, binAV, storeAV, AV.putCells, AV.ref, if_true, if_false, Nat.reduceEqDiff, Nat.reduceAdd, Nat.reduceLT, Nat.reduceLeDiff, reduceCtorEq, ↓reduceIte, pickAV, lenAV, intAV, slcA, slcAV, iaddrAV, extAV, fldAV, eqCell, contAV, appendAV, maxI, minI, Option.some.injEq, catT]
  refine hK _ _ nofun ?_
  clear hK K
  refine CW.seq ?_
  refine CW.block ?_
  refine CW.loopF (fun _ : Unit => 0) (fun _ => ⟨[(0, .sl 0 g 0 xs.length), (1, .int .i64 (xs.length : Int)), (2, .clo 105 [.rp true [pts l]]), (6, .int .i64 20), (7, .int .i64 0), (8, .int .i64 20)], [.row false g false 1 (ix xs)]⟩) (fun _ => True) (fun _ _ => ?_) () trivial _ (Fgt.mk' 1 (by simp) (by simp [keepB, Am.get, AV.lt, ltL, lt_pts]) rfl ⟨by simp only [Blk.lt, ltL_ix], trivial⟩)
  refine CW.seq ?_
  refine CW.rI fun K hK => ?_
  simp (maxSteps := 4000000) only [amC, amR, setO, Am.set, dr3, dr4, AV.elem, AV.cells, AV.one, loadAV, faddrAV, binAV, storeAV, AV.putCells, AV.ref, if_true, if_false, Nat.reduceEqDiff, Nat.reduceAdd, Nat.reduceLT, Nat.reduceLeDiff, reduceCtorEq, ↓reduceIte, pickAV, lenAV, intAV, slcA, slcAV, iaddrAV, extAV, fldAV, eqCell, contAV, appendAV, maxI, minI, Option.some.injEq, catT, h20]
  refine hK _ _ nofun ?_
  clear hK K
  refine CW.condF rfl (CW.exit ?_)
  show CW _ _ _ _ _ _
  refine CW.rI fun K hK => ?_
  simp (maxSteps := 4000000) only [amC, amR, setO, Am.set, dr3, dr4, AV.elem, AV.cells, AV.one, loadAV, faddrAV, binAV, storeAV, AV.putCells, AV.ref, if_true, if_false, Nat.reduceEqDiff, Nat.reduceAdd, Nat.reduceLT, Nat.reduceLeDiff, reduceCtorEq, ↓reduceIte, pickAV, lenAV, intAV, slcA, slcAV, iaddrAV, extAV, fldAV, eqCell, contAV, appendAV, maxI, minI, Option.some.injEq, catT]
  refine RunCall.one (fid := 127) (caps := []) rfl rfl (b := 0) (.cons (.row g 0 xs.length) (.cons (.flat rfl) (.cons (.flat rfl) (.cons (.flat (flat_cl l 105)) .nil)))) (c127 l g xs hx (by omega)) (by simp) rfl (by simp only [Blk.lt, ltL_ix]) rfl (by simp only [Blk.lt, ltL_ix]) (by simp only [Blk.clean, cleanL_ix]) ?_
  simp (maxSteps := 4000000) only [amC, amR, setO, Am.set, dr3, dr4, AV.elem, AV.cells, AV.one, loadAV, faddrAV, binAV, storeAV, AV.putCells, AV.ref, if_true, if_false, Nat.reduceEqDiff, Nat.reduceAdd, Nat.reduceLT, Nat.reduceLeDiff, reduceCtorEq, ↓reduceIte, pickAV, lenAV, intAV, slcA, slcAV, iaddrAV, extAV, fldAV, eqCell, contAV, appendAV, maxI, minI, Option.some.injEq, catT]
  refine hK _ _ nofun ?_
  clear hK K
  refine CW.block ?_
  refine CW.loopF (fun _ : Unit => 0) (fun _ => ⟨[(0, .sl 0 g 0 xs.length), (1, .int .i64 (xs.length : Int)), (2, .clo 105 [.rp true [pts l]]), (6, .int .i64 20), (7, .int .i64 0), (8, .int .i64 20)], [.row false g false 1 (ix (insort (lessB l) xs))]⟩) (fun _ => True) (fun _ _ => ?_) () trivial _ (Fgt.mk' 1 (by simp) (by simp [keepB, Am.get, AV.lt, ltL, lt_pts]) rfl ⟨by simp only [Blk.lt, ltL_ix], trivial⟩)
  refine CW.seq ?_
  refine CW.rI fun K hK => ?_
  simp (maxSteps := 4000000) only [amC, amR, setO, Am.set, dr3, dr4, AV.elem, AV.cells, AV.one, loadAV, faddrAV, binAV, storeAV, AV.putCells, AV.ref, if_true, if_false, Nat.reduceEqDiff, Nat.reduceAdd, Nat.reduceLT, Nat.reduceLeDiff, reduceCtorEq, ↓reduceIte, pickAV, lenAV, intAV, slcA, slcAV, iaddrAV, extAV, fldAV, eqCell, contAV, appendAV, maxI, minI, Option.some.injEq, catT, h20']
  refine hK _ _ nofun ?_
  clear hK K
  refine CW.condF rfl (CW.exit ?_)
  exact finK_keep (.inl rfl) (xs := []) rfl rfl rfl (by simp) rfl (fun b hb => by rw [List.mem_singleton.1 hb]; simp only [Blk.allR, allRL_ix])
theorem c104 (l : List Pt) (g : Nat) (xs : List Nat) (hx : ∀ x ∈ xs, x < l.length) (hn : xs.length < 20) :
    CallsF Try.prog 104 [.sl 0 g 0 xs.length, .clo 105 [.rp true [pts l]]] [.row false g false 1 (ix xs)] (.tup []) [.row false g false 1 (ix (insort (lessB l) xs))] := by
  refine callsF_cw hm hf104 (by simp [cf104]) ?_
  simp only [cf104, argsAl]
  refine CW.rE fun K hK => ?_
  simp (maxSteps := 4000000) only [amC, amR, setO, Am.set, dr3, dr4, AV.elem, AV.cells, AV.one, loadAV, faddrAV, binAV, storeAV, AV.putCells, AV.ref, if_true, if_false, Nat.reduceEqDiff, Nat.reduceAdd, Nat.reduceLT, Nat.reduceLeDiff, reduceCtorEq, ↓reduceIte, pickAV, lenAV, intAV, slcA, slcAV, iaddrAV, extAV, fldAV, eqCell, contAV, appendAV, maxI, minI, Option.some.injEq, catT]
  refine RunCall.one (fid := 114) (caps := []) rfl rfl (b := 0) (.cons (.row g 0 xs.length) (.cons (.flat rfl) (.cons (.flat (flat_cl l 105)) .nil))) (c114 l g xs hx hn) (by simp) rfl (by simp only [Blk.lt, ltL_ix]) rfl (by simp only [Blk.lt, ltL_ix]) (by simp only [Blk.clean, cleanL_ix]) ?_
  simp (maxSteps := 4000000) only [amC, amR, setO, Am.set, dr3, dr4, AV.elem, AV.cells, AV.one, loadAV, faddrAV, binAV, storeAV, AV.putCells, AV.ref, if_true, if_false, Nat.reduceEqDiff, Nat.reduceAdd, Nat.reduceLT, Nat.reduceLeDiff, reduceCtorEq, ↓reduceIte, pickAV, lenAV, intAV, slcA, slcAV, iaddrAV, extAV, fldAV, eqCell, contAV, appendAV, maxI, minI, Option.some.injEq, catT]
  refine hK _ _ nofun ?_
  clear hK K
  exact finK_keep (.inl rfl) (xs := []) rfl rfl rfl (by simp) rfl (fun b hb => by rw [List.mem_singleton.1 hb]; simp only [Blk.allR, allRL_ix])
/-- The numbers of a list's points, in the points' order. -/
def orderI (l : List Pt) : List Nat := insort (lessB l) (List.range l.length)
theorem ix_replicate (n : Nat) : List.replicate n (AV.int .i64 0) = ix (List.replicate n 0) := by simp [ix]
theorem range_set {n i : Nat} (h : i < n) : (List.range i ++ List.replicate (n - i) 0).set i i = List.range (i + 1) ++ List.replicate (n - (i + 1)) 0 := by
  rw [List.set_append_right _ _ (by simp)]
  simp only [List.length_range, Nat.sub_self]
  have : n - i = (n - (i + 1)) + 1 := by omega
  rw [this, List.replicate_succ, List.set_cons_zero, List.range_succ, List.append_assoc]
  rfl
theorem c83 (l : List Pt) (hn : l.length < 20) (hok : chk l = 0) : CallsF Try.prog 83 [pts l] [] (.tup [.sl 0 0 0 l.length, .int .i64 0]) [.row false 0 false 1 (ix (orderI l))] := by
  have hb : l.length * 8 ≤ appBound := by unfold appBound; omega
  refine callsF_cw hm hf83 (by simp [cf83]) ?_
  simp only [cf83, argsAl]
  refine CW.rI fun K hK => ?_
  simp (maxSteps := 4000000) only [amC, amR, setO, Am.set, dr3, dr4, AV.elem, AV.cells, AV.one, loadAV, faddrAV, binAV, storeAV, AV.putCells, AV.ref, if_true, if_false, Nat.reduceEqDiff, Nat.reduceAdd, Nat.reduceLT, Nat.reduceLeDiff, reduceCtorEq, ↓reduceIte, pickAV, lenAV, intAV, slcA, slcAV, iaddrAV, extAV, fldAV, eqCell, contAV, appendAV, maxI, minI, Option.some.injEq, catT, AV.elem, AV.cells, AV.one, pts, List.all_cons, List.all_nil]
  refine hK _ _ nofun ?_
  clear hK K
  refine CW.seq ?_
  refine CW.rI fun K hK => ?_
  simp (maxSteps := 4000000) only [amC, amR, setO, Am.set, dr3, dr4, AV.elem, AV.cells, AV.one, loadAV, faddrAV, binAV, storeAV, AV.putCells, AV.ref, if_true, if_false, Nat.reduceEqDiff, Nat.reduceAdd, Nat.reduceLT, Nat.reduceLeDiff, reduceCtorEq, ↓reduceIte, pickAV, lenAV, intAV, slcA, slcAV, iaddrAV, extAV, fldAV, eqCell, contAV, appendAV, maxI, minI, Option.some.injEq, catT, AV.cells]
  refine RunCall.view (fid := 50) (caps := []) rfl rfl (viewArgs_flat1 (flat_pts l 2)) (c50 l (by omega)) rfl ?_
  simp (maxSteps := 4000000) only [amC, amR, setO, Am.set, dr3, dr4, AV.elem, AV.cells, AV.one, loadAV, faddrAV, binAV, storeAV, AV.putCells, AV.ref, if_true, if_false, Nat.reduceEqDiff, Nat.reduceAdd, Nat.reduceLT, Nat.reduceLeDiff, reduceCtorEq, ↓reduceIte, pickAV, lenAV, intAV, slcA, slcAV, iaddrAV, extAV, fldAV, eqCell, contAV, appendAV, maxI, minI, Option.some.injEq, catT, hok]
  refine hK _ _ nofun ?_
  clear hK K
  refine CW.rI fun K hK => ?_
  simp (maxSteps := 4000000) only [amC, amR, setO, Am.set, dr3, dr4, AV.elem, AV.cells, AV.one, loadAV, faddrAV, binAV, storeAV, AV.putCells, AV.ref, if_true, if_false, Nat.reduceEqDiff, Nat.reduceAdd, Nat.reduceLT, Nat.reduceLeDiff, reduceCtorEq, ↓reduceIte, pickAV, lenAV, intAV, slcA, slcAV, iaddrAV, extAV, fldAV, eqCell, contAV, appendAV, maxI, minI, Option.some.injEq, catT, show ((0 : Int) != 0) = false from rfl]
  refine hK _ _ nofun ?_
  clear hK K
  refine CW.condF rfl (CW.skip ?_)
  show CW _ _ _ _ _ _
  refine CW.rI fun K hK => ?_
  simp (maxSteps := 4000000) only [amC, amR, setO, Am.set, dr3, dr4, AV.elem, AV.cells, AV.one, loadAV, faddrAV, binAV, storeAV, AV.putCells, AV.ref, if_true, if_false, Nat.reduceEqDiff, Nat.reduceAdd, Nat.reduceLT, Nat.reduceLeDiff, reduceCtorEq, ↓reduceIte, pickAV, lenAV, intAV, slcA, slcAV, iaddrAV, extAV, fldAV, eqCell, contAV, appendAV, maxI, minI, Option.some.injEq, catT, AV.cells, List.length_map, Int.natCast_nonneg, Int.toNat_natCast, hb, show (AV.int .i64 0).elem = true from rfl, ix_replicate]
  refine hK _ _ nofun ?_
  clear hK K
  refine CW.seq ?_
  refine CW.rI fun K hK => ?_
  simp (maxSteps := 4000000) only [amC, amR, setO, Am.set, dr3, dr4, AV.elem, AV.cells, AV.one, loadAV, faddrAV, binAV, storeAV, AV.putCells, AV.ref, if_true, if_false, Nat.reduceEqDiff, Nat.reduceAdd, Nat.reduceLT, Nat.reduceLeDiff, reduceCtorEq, ↓reduceIte, pickAV, lenAV, intAV, slcA, slcAV, iaddrAV, extAV, fldAV, eqCell, contAV, appendAV, maxI, minI, Option.some.injEq, catT]
  refine hK _ _ nofun ?_
  clear hK K
  refine CW.block ?_
  refine CW.loopF (fun i => l.length - i) (fun i => ⟨[(0, pts l), (1, .ptr 0 0 0 0), (5, .sl 2 0 0 l.length), (15, .sl 2 0 0 l.length), (16, .int .i64 (l.length : Int)), (17, .int .i64 (i : Nat))], [.row false 0 false 1 [pts l], .row true 0 false 1 [], .row false 0 false 1 (ix (List.range i ++ List.replicate (l.length - i) 0))]⟩) (fun i => i ≤ l.length) (fun i hi => ?_) 0 (Nat.zero_le _) _
    (Fgt.mk' 3 (by simp) (by simp [keepB, Am.get, AV.lt, ltL, lt_pts, pts, ltL_pt]) (by simp [pts]) ⟨by simp only [Blk.lt, ltL, lt_pts, Bool.and_self], rfl, by simp only [Blk.lt, ltL_ix], trivial⟩)
  by_cases h2 : (i : Int) < (l.length : Int)
  · have hi' : i < l.length := by omega
    have hlen : i < (List.range i ++ List.replicate (l.length - i) 0).length := by simp; omega
    refine CW.rI fun K hK => ?_
    simp (maxSteps := 4000000) only [amC, amR, setO, Am.set, dr3, dr4, AV.elem, AV.cells, AV.one, loadAV, faddrAV, binAV, storeAV, AV.putCells, AV.ref, if_true, if_false, Nat.reduceEqDiff, Nat.reduceAdd, Nat.reduceLT, Nat.reduceLeDiff, reduceCtorEq, ↓reduceIte, pickAV, lenAV, intAV, slcA, slcAV, iaddrAV, extAV, fldAV, eqCell, contAV, appendAV, maxI, minI, Option.some.injEq, catT, h2]
    refine hK _ _ nofun ?_
    clear hK K
    refine CW.seq ?_
    refine CW.condT rfl (CW.skip ?_)
    show CW _ _ _ _ _ _
    refine CW.seq ?_
    refine CW.block ?_
    refine CW.rI fun K hK => ?_
    simp (maxSteps := 4000000) only [amC, amR, setO, Am.set, dr3, dr4, AV.elem, AV.cells, AV.one, loadAV, faddrAV, binAV, storeAV, AV.putCells, AV.ref, if_true, if_false, Nat.reduceEqDiff, Nat.reduceAdd, Nat.reduceLT, Nat.reduceLeDiff, reduceCtorEq, ↓reduceIte, pickAV, lenAV, intAV, slcA, slcAV, iaddrAV, extAV, fldAV, eqCell, contAV, appendAV, maxI, minI, Option.some.injEq, catT]
    refine hK _ _ nofun ?_
    clear hK K
    refine CW.rE fun K hK => ?_
    simp (maxSteps := 4000000) only [amC, amR, setO, Am.set, dr3, dr4, AV.elem, AV.cells, AV.one, loadAV, faddrAV, binAV, storeAV, AV.putCells, AV.ref, if_true, if_false, Nat.reduceEqDiff, Nat.reduceAdd, Nat.reduceLT, Nat.reduceLeDiff, reduceCtorEq, ↓reduceIte, pickAV, lenAV, intAV, slcA, slcAV, iaddrAV, extAV, fldAV, eqCell, contAV, appendAV, maxI, minI, Option.some.injEq, catT, h2, Int.natCast_nonneg, Int.toNat_natCast, ix_get _ hlen, AV.cells, AV.elem, AV.one, List.all_cons, List.all_nil, ix_set, range_set hi']
    refine hK _ _ nofun ?_
    clear hK K
    refine CW.rE fun K hK => ?_
    simp (maxSteps := 4000000) only [amC, amR, setO, Am.set, dr3, dr4, AV.elem, AV.cells, AV.one, loadAV, faddrAV, binAV, storeAV, AV.putCells, AV.ref, if_true, if_false, Nat.reduceEqDiff, Nat.reduceAdd, Nat.reduceLT, Nat.reduceLeDiff, reduceCtorEq, ↓reduceIte, pickAV, lenAV, intAV, slcA, slcAV, iaddrAV, extAV, fldAV, eqCell, contAV, appendAV, maxI, minI, Option.some.injEq, catT, wrap_nat i (by omega)]
    refine hK _ _ nofun ?_
    clear hK K
    exact ⟨i + 1, by omega, by omega, Fgt.mk' 3 (by simp) (by simp [keepB, Am.get, AV.lt, ltL, lt_pts]) rfl ⟨by simp only [Blk.lt, ltL, lt_pts, Bool.and_self], rfl, by simp only [Blk.lt, ltL_ix], trivial⟩⟩
  · have hil : i = l.length := by omega
    subst hil
    refine CW.rI fun K hK => ?_
    simp (maxSteps := 4000000) only [amC, amR, setO, Am.set, dr3, dr4, AV.elem, AV.cells, AV.one, loadAV, faddrAV, binAV, storeAV, AV.putCells, AV.ref, if_true, if_false, Nat.reduceEqDiff, Nat.reduceAdd, Nat.reduceLT, Nat.reduceLeDiff, reduceCtorEq, ↓reduceIte, pickAV, lenAV, intAV, slcA, slcAV, iaddrAV, extAV, fldAV, eqCell, contAV, appendAV, maxI, minI, Option.some.injEq, catT, h2]
    refine hK _ _ nofun ?_
    clear hK K
    refine CW.seq ?_
    refine CW.condF rfl (CW.exit ?_)
    show CW _ _ _ _ _ _
    have hc := c104 l 0 (List.range l.length) (fun x hx => List.mem_range.1 hx) (by simpa using hn)
    rw [List.length_range] at hc
    refine CW.rI fun K hK => ?_
    simp (maxSteps := 4000000) only [amC, amR, setO, Am.set, dr3, dr4, AV.elem, AV.cells, AV.one, loadAV, faddrAV, binAV, storeAV, AV.putCells, AV.ref, if_true, if_false, Nat.reduceEqDiff, Nat.reduceAdd, Nat.reduceLT, Nat.reduceLeDiff, reduceCtorEq, ↓reduceIte, pickAV, lenAV, intAV, slcA, slcAV, iaddrAV, extAV, fldAV, eqCell, contAV, appendAV, maxI, minI, Option.some.injEq, catT, Nat.sub_self, List.replicate_zero]
    refine RunCall.one (fid := 104) (caps := []) rfl rfl (b := 2) (X := [.sl 2 0 0 l.length, .clo 105 [.ptr 0 0 0 0]]) (args := [.sl 0 0 0 l.length, .clo 105 [.rp true [pts l]]]) (.cons (.row 0 0 l.length) (.cons (.view (viewG_clo rfl (flat_pts l 2) rfl) rfl) .nil)) hc (by simp) rfl (by simp only [Blk.lt, ltL_ix]) rfl (by simp only [Blk.lt, ltL_ix]) (by simp only [Blk.clean, cleanL_ix]) ?_
    simp (maxSteps := 4000000) only [amC, amR, setO, Am.set, dr3, dr4, AV.elem, AV.cells, AV.one, loadAV, faddrAV, binAV, storeAV, AV.putCells, AV.ref, if_true, if_false, Nat.reduceEqDiff, Nat.reduceAdd, Nat.reduceLT, Nat.reduceLeDiff, reduceCtorEq, ↓reduceIte, pickAV, lenAV, intAV, slcA, slcAV, iaddrAV, extAV, fldAV, eqCell, contAV, appendAV, maxI, minI, Option.some.injEq, catT]
    refine hK _ _ nofun ?_
    clear hK K
    refine CW.rI fun K hK => ?_
    simp (maxSteps := 4000000) only [amC, amR, setO, Am.set, dr3, dr4, AV.elem, AV.cells, AV.one, loadAV, faddrAV, binAV, storeAV, AV.putCells, AV.ref, if_true, if_false, Nat.reduceEqDiff, Nat.reduceAdd, Nat.reduceLT, Nat.reduceLeDiff, reduceCtorEq, ↓reduceIte, pickAV, lenAV, intAV, slcA, slcAV, iaddrAV, extAV, fldAV, eqCell, contAV, appendAV, maxI, minI, Option.some.injEq, catT]
    refine hK _ _ nofun ?_
    clear hK K
    refine CW.ret (finK_new (.inr rfl) (xs := [.sl 2 0 0 l.length, .int .i64 0]) (b := 2) (g := 0) (by simp [resRV, Am.get]) rfl (allRL_ix _ _ _) rfl ?_)
    simp [tupAV, AV.mapR, mapRL, sigF]
end Go.Hull
end
section
set_option linter.unusedSimpArgs false
set_option linter.unusedVariables false
set_option maxHeartbeats 2000000
namespace Go.Hull
open Go Go.Am Go.Proofs

def eqP (p q : Pt) : Bool := (p.1 == q.1) && ((p.2 == q.2) && true)
theorem c85 {l : List Pt} {i k : Nat} {p q : Pt} (hi : l[i]? = some p) (hk : l[k]? = some q) : CallsF Try.prog 85 [.int .i64 (i : Int), .int .i64 (k : Int), .rp true [pts l]] [] (.bool (eqP p q)) [] := by
  have hil : (i : Int) < (l.length : Int) := by have := (List.getElem?_eq_some_iff.1 hi).1; omega
  have hkl : (k : Int) < (l.length : Int) := by have := (List.getElem?_eq_some_iff.1 hk).1; omega
  have hpi := get_pts hi
  have hpk := get_pts hk
  refine callsF_cw hm hf85 (by simp [cf85]) ?_
  simp only [cf85, argsAl]
  refine CW.rI fun K hK => ?_
  simp (maxSteps := 4000000) only [amC, amR, setO, Am.set, dr3, dr4, AV.elem, AV.cells, AV.one, loadAV, faddrAV, binAV, storeAV, AV.putCells, AV.ref, if_true, if_false, Nat.reduceEqDiff, Nat.reduceAdd, Nat.reduceLT, Nat.reduceLeDiff, reduceCtorEq, ↓reduceIte, pickAV, lenAV, intAV, slcA, slcAV, iaddrAV, extAV, fldAV, eqCell, contAV, appendAV, maxI, minI, Option.some.injEq, catT]
  refine hK _ _ nofun ?_
  clear hK K
  unfold pts
  refine CW.rI fun K hK => ?_
  simp (maxSteps := 4000000) only [amC, amR, setO, Am.set, dr3, dr4, AV.elem, AV.cells, AV.one, loadAV, faddrAV, binAV, storeAV, AV.putCells, AV.ref, if_true, if_false, Nat.reduceEqDiff, Nat.reduceAdd, Nat.reduceLT, Nat.reduceLeDiff, reduceCtorEq, ↓reduceIte, pickAV, lenAV, intAV, slcA, slcAV, iaddrAV, extAV, fldAV, eqCell, contAV, appendAV, maxI, minI, Option.some.injEq, catT, List.length_map, hil, hkl, hpi, hpk, Int.toNat_natCast, Int.natCast_nonneg, AV.cells, pt]
  refine hK _ _ (fun _ => rfl) ?_
  clear hK K
  exact CW.ret (finK_pure (.inr rfl) (xs := [.bool (eqP p q)]) (by simp [resRV, Am.get, eqP]) rfl rfl)
def rv (n : Nat) : Nat → Nat → List Nat → List Nat
  | 0, _, xs => xs
  | f + 1, i, xs => if i < n - 1 - i then rv n f (i + 1) ((xs.set i (xs.getD (n - 1 - i) 0)).set (n - 1 - i) (xs.getD i 0)) else xs
/-- The top of the stack stands first. -/
def pop (l : List Pt) (i : Nat) : List Nat → List Nat
  | b :: a :: r => if left (l.getD a (0, 0)) (l.getD b (0, 0)) (l.getD i (0, 0)) ≤ 0 then pop l i (a :: r) else b :: a :: r
  | st => st
def chainS (l : List Pt) (ord : List Nat) : List Nat := ord.foldl (fun st i => i :: pop l i st) []
theorem pop_mem {l : List Pt} {i n : Nat} : ∀ (st : List Nat), (∀ x ∈ st, x < n) → ∀ x ∈ pop l i st, x < n := by
  intro st
  induction st with
  | nil => intro h; exact h
  | cons b st ih =>
    intro h
    cases st with
    | nil => exact h
    | cons a r =>
      simp only [pop]
      split
      · exact ih fun x hx => h x (by simp [hx])
      · exact h
theorem pop_length {l : List Pt} {i : Nat} : ∀ (st : List Nat), (pop l i st).length ≤ st.length := by
  intro st
  induction st with
  | nil => exact Nat.le_refl _
  | cons b st ih =>
    cases st with
    | nil => exact Nat.le_refl _
    | cons a r =>
      simp only [pop]
      split
      · exact Nat.le_trans ih (by simp)
      · exact Nat.le_refl _
theorem take_get {zs st : List Nat} {n k : Nat} (h : zs.take n = st.reverse) (hn : n = st.length) (hk : k < n) : zs.getD k 0 = st.getD (n - 1 - k) 0 ∧ k < zs.length := by
  have hl : (zs.take n).length = n := by rw [h, List.length_reverse, hn]
  have hz : n ≤ zs.length := by rw [List.length_take] at hl; omega
  refine ⟨?_, by omega⟩
  have e1 : zs[k]? = (zs.take n)[k]? := by rw [List.getElem?_take, if_pos hk]
  rw [List.getD_eq_getElem?_getD, e1, h, List.getElem?_reverse (by omega), List.getD_eq_getElem?_getD, hn]
end Go.Hull
end
section
set_option linter.unusedSimpArgs false
set_option linter.unusedVariables false
set_option maxHeartbeats 2000000
namespace Go.Hull
open Go Go.Am Go.Proofs

theorem elem_int (k : IntKind) (n : Int) : (AV.int k n).elem = true := rfl
theorem all_ok {l : List Pt} (h : l.all okP = true) {k : Nat} (hk : k < l.length) : okP (l.getD k (0, 0)) = true :=
  List.all_eq_true.1 h _ (List.mem_of_getElem? (getp hk))
theorem foldl_take_succ {α β : Type} (f : β → α → β) (b : β) (l : List α) {i : Nat} {x : α} (h : l[i]? = some x) : (l.take (i + 1)).foldl f b = f ((l.take i).foldl f b) x := by
  rw [List.take_add_one, h]
  simp
theorem chain_pos {l : List Pt} : ∀ (ord st : List Nat), ord ≠ [] → 0 < (ord.foldl (fun st i => i :: pop l i st) st).length := by
  intro ord
  induction ord with
  | nil => intro st h; exact absurd rfl h
  | cons o os ih =>
    intro st _
    cases os with
    | nil => simp
    | cons o' os' => exact ih _ (by simp)
theorem c86 (l : List Pt) (hok : l.all okP = true) (ord : List Nat) (ho : ∀ x ∈ ord, x < l.length) (hne : ord ≠ []) (hn : ord.length < 1000) :
    CallsF Try.prog 86 [.sv false 1 (ix ord), .rp true [pts l]] [] (.sl 0 0 0 ((chainS l ord).length - 1)) [.row false 0 false 1 (ix ((chainS l ord).reverse))] := by
  refine callsF_cwx hm hf86 (by simp [cf86]) ?_
  simp only [cf86, argsAl]
  refine CWx.r fun K hK => ?_
  simp (maxSteps := 4000000) only [amC, amX, dr3, dr4, AV.elem, AV.cells, AV.one, loadAV, faddrAV, binAV, storeAV, AV.putCells, AV.ref, if_true, if_false, Nat.reduceEqDiff, Nat.reduceAdd, Nat.reduceLT, Nat.reduceLeDiff, reduceCtorEq, ↓reduceIte, pickAV, lenAV, intAV, slcA, slcAV, iaddrAV, extAV, fldAV, eqCell, contAV, appendAV, maxI, minI, Option.some.injEq, catT]
  refine hK _ _ _ nofun ?_
  clear hK K
  refine CWx.r fun K hK => ?_
  simp (maxSteps := 4000000) only [amC, amX, dr3, dr4, AV.elem, AV.cells, AV.one, loadAV, faddrAV, binAV, storeAV, AV.putCells, AV.ref, if_true, if_false, Nat.reduceEqDiff, Nat.reduceAdd, Nat.reduceLT, Nat.reduceLeDiff, reduceCtorEq, ↓reduceIte, pickAV, lenAV, intAV, slcA, slcAV, iaddrAV, extAV, fldAV, eqCell, contAV, appendAV, maxI, minI, Option.some.injEq, catT]
  refine hK _ _ _ nofun ?_
  clear hK K
  refine CWx.seq ?_
  refine CWx.r fun K hK => ?_
  simp (maxSteps := 4000000) only [amC, amX, dr3, dr4, AV.elem, AV.cells, AV.one, loadAV, faddrAV, binAV, storeAV, AV.putCells, AV.ref, if_true, if_false, Nat.reduceEqDiff, Nat.reduceAdd, Nat.reduceLT, Nat.reduceLeDiff, reduceCtorEq, ↓reduceIte, pickAV, lenAV, intAV, slcA, slcAV, iaddrAV, extAV, fldAV, eqCell, contAV, appendAV, maxI, minI, Option.some.injEq, catT, ix_length]
  refine hK _ _ _ nofun ?_
  clear hK K
  refine CWx.block ?_
  refine CWx.loopF (fun q : Nat × List Nat × List Nat => ord.length - q.1) (fun q => ⟨[(0, .sv false 1 (ix ord)), (1, .rp true [pts l]), (4, .sl 1 q.1 0 q.2.1.length), (7, .sv false 1 (ix ord)), (8, .int .i64 (ord.length : Int)), (9, .int .i64 (q.1 : Int))], [.row true 0 false 1 [], .row (decide (q.1 = 0)) q.1 false 1 (ix q.2.2)]⟩)
    (fun q => q.1 ≤ ord.length ∧ q.2.2.take q.2.1.length = q.2.1.reverse ∧ (∀ x ∈ q.2.1, x < l.length) ∧ q.2.1.length ≤ q.1 ∧ (q.2.2.length = q.2.1.length) ∧ q.2.1 = (ord.take q.1).foldl (fun st i => i :: pop l i st) []) (fun q hq => ?_) (0, [], []) ⟨Nat.zero_le _, rfl, by simp, by simp, rfl, by simp⟩
    (Fgt.mk' 2 (by simp) (by simp [keepB, Am.get, AV.lt, ltL, lt_pts, ltL_ix]) rfl ⟨rfl, rfl, trivial⟩)
  obtain ⟨i, st, zs⟩ := q
  obtain ⟨hi, hz, hm, hsl, hzl, hst⟩ := hq
  simp only at hi hz hm hsl hzl hst
  by_cases h : (i : Int) < (ord.length : Int)
  · have hil : i < ord.length := by omega
    have hv := ix_get ord hil
    have hvo : ord[i]? = some (ord.getD i 0) := by simp [List.getD_eq_getElem?_getD, List.getElem?_eq_getElem hil]
    have hov := getD_lt ho hil
    obtain ⟨v, hvd⟩ : ∃ v, v = ord.getD i 0 := ⟨_, rfl⟩
    rw [← hvd] at hv hov hvo
    have hpv := get_pts (getp hov)
    have okv := all_ok hok hov
    refine CWx.r fun K hK => ?_
    simp (maxSteps := 4000000) only [amC, amX, dr3, dr4, AV.elem, AV.cells, AV.one, loadAV, faddrAV, binAV, storeAV, AV.putCells, AV.ref, if_true, if_false, Nat.reduceEqDiff, Nat.reduceAdd, Nat.reduceLT, Nat.reduceLeDiff, reduceCtorEq, ↓reduceIte, pickAV, lenAV, intAV, slcA, slcAV, iaddrAV, extAV, fldAV, eqCell, contAV, appendAV, maxI, minI, Option.some.injEq, catT, h]
    refine hK _ _ _ nofun ?_
    clear hK K
    refine CWx.seq ?_
    refine CWx.condT rfl (CWx.skip (CWx.go ?_))
    refine CWx.seq ?_
    refine CWx.block ?_
    refine CWx.r fun K hK => ?_
    simp (maxSteps := 4000000) only [amC, amX, dr3, dr4, AV.elem, AV.cells, AV.one, loadAV, faddrAV, binAV, storeAV, AV.putCells, AV.ref, if_true, if_false, Nat.reduceEqDiff, Nat.reduceAdd, Nat.reduceLT, Nat.reduceLeDiff, reduceCtorEq, ↓reduceIte, pickAV, lenAV, intAV, slcA, slcAV, iaddrAV, extAV, fldAV, eqCell, contAV, appendAV, maxI, minI, Option.some.injEq, catT, ix_length, h, Int.natCast_nonneg, Int.toNat_natCast, hv, AV.cells]
    refine hK _ _ _ nofun ?_
    clear hK K
    refine CWx.seq ?_
    refine CWx.block ?_
    refine CWx.loopF (fun q : List Nat => q.length) (fun q => ⟨[(0, .sv false 1 (ix ord)), (1, .rp true [pts l]), (4, .sl 1 i 0 q.length), (6, .int .i64 (v : Int)), (7, .sv false 1 (ix ord)), (8, .int .i64 (ord.length : Int)), (9, .int .i64 (i : Int))], [.row true 0 false 1 [], .row (decide (i = 0)) i false 1 (ix zs)]⟩)
      (fun q => zs.take q.length = q.reverse ∧ (∀ x ∈ q, x < l.length) ∧ q.length ≤ i ∧ q.length ≤ zs.length ∧ pop l v q = pop l v st) (fun q hq => ?_) st ⟨hz, hm, hsl, by omega, rfl⟩ (Fgt.mk' 2 (by simp) (by simp [keepB, Am.get, AV.lt, ltL, lt_pts, ltL_ix]) rfl ⟨rfl, by simp only [Blk.lt, ltL_ix], trivial⟩)
    obtain ⟨hqz, hqm, hqi, hqzl, hqp⟩ := hq
    have hb : (q.length + 1) * 8 ≤ appBound := by unfold appBound; omega
    refine CWx.seq ?_
    match q, hqz, hqm, hqi, hqzl, hqp, hb with
    | [], hqz, hqm, hqi, hqzl, hqp, hb =>
      have hp : pop l v [] = [] := rfl
      obtain ⟨q, hq0⟩ : ∃ q : List Nat, q = [] := ⟨[], rfl⟩
      refine CWx.r fun K hK => ?_
      simp (maxSteps := 4000000) only [amC, amX, dr3, dr4, AV.elem, AV.cells, AV.one, loadAV, faddrAV, binAV, storeAV, AV.putCells, AV.ref, if_true, if_false, Nat.reduceEqDiff, Nat.reduceAdd, Nat.reduceLT, Nat.reduceLeDiff, reduceCtorEq, ↓reduceIte, pickAV, lenAV, intAV, slcA, slcAV, iaddrAV, extAV, fldAV, eqCell, contAV, appendAV, maxI, minI, Option.some.injEq, catT, List.length_nil, show ¬ ((1 : Int) < ((0 : Nat) : Int)) from by decide]
      refine hK _ _ _ (fun _ => rfl) ?_
      clear hK K
      refine CWx.condF rfl (CWx.exit (CWx.go ?_))
      rw [← hq0] at hp hqz hqm hqi hqzl hqp hb
      have e0 : (0 : Nat) = q.length := by rw [hq0]; rfl
      have e1 : (AV.sl 1 i 0 0) = .sl 1 i 0 q.length := by rw [← e0]
      rw [e1]
      refine CWx.e fun K hK => ?_
      simp (maxSteps := 4000000) only [amC, amX, dr3, dr4, AV.elem, AV.cells, AV.one, loadAV, faddrAV, binAV, storeAV, AV.putCells, AV.ref, if_true, if_false, Nat.reduceEqDiff, Nat.reduceAdd, Nat.reduceLT, Nat.reduceLeDiff, reduceCtorEq, ↓reduceIte, pickAV, lenAV, intAV, slcA, slcAV, iaddrAV, extAV, fldAV, eqCell, contAV, appendAV, maxI, minI, Option.some.injEq, catT, sizedA, elem_int, AV.cells, beq_self_eq_true, Bool.and_self, hb, hqzl, List.isEmpty_cons, ix_length, Nat.reduceBEq, true_or, or_true]
      refine hK _ _ _ nofun ?_
      clear hK K
      refine CWx.go ?_
      refine CWx.e fun K hK => ?_
      simp (maxSteps := 4000000) only [amC, amX, dr3, dr4, AV.elem, AV.cells, AV.one, loadAV, faddrAV, binAV, storeAV, AV.putCells, AV.ref, if_true, if_false, Nat.reduceEqDiff, Nat.reduceAdd, Nat.reduceLT, Nat.reduceLeDiff, reduceCtorEq, ↓reduceIte, pickAV, lenAV, intAV, slcA, slcAV, iaddrAV, extAV, fldAV, eqCell, contAV, appendAV, maxI, minI, Option.some.injEq, catT, wrap_nat i (by omega)]
      refine hK _ _ _ nofun ?_
      clear hK K
      intro al hal
      have hlen2 : (v :: pop l v st).length = q.length + 1 := by rw [← hqp, hp]; rfl
      refine ⟨(i + 1, v :: pop l v st, (v :: pop l v st).reverse), by simp only; omega, ⟨by simp only; omega, ?_, ?_, ?_, ?_, ?_⟩, Fgt.ofx hal (Fgt.mk' 2 (by simp) ?_ ?_ ⟨rfl, by simp only [Blk.lt, ltL_ix], trivial⟩)⟩
      · exact List.take_of_length_le (by simp)
      · intro x hx
        rcases List.mem_cons.1 hx with rfl | hx
        · exact hov
        · exact pop_mem st hm x hx
      · simp only [hlen2]; omega
      · simp
      · simp only
        rw [foldl_take_succ _ _ _ hvo, ← hst]
      · simp only [hlen2]
        simp [keepB, Am.get, AV.lt, ltL, lt_pts, ltL_ix, pts, ltL_pt]
      · simp [ix_take, hqz, ← hqp, hp]
        simp [ix]
    | [a], hqz, hqm, hqi, hqzl, hqp, hb =>
      have hp : pop l v [a] = [a] := rfl
      obtain ⟨q, hq0⟩ : ∃ q : List Nat, q = [a] := ⟨[a], rfl⟩
      refine CWx.r fun K hK => ?_
      simp (maxSteps := 4000000) only [amC, amX, dr3, dr4, AV.elem, AV.cells, AV.one, loadAV, faddrAV, binAV, storeAV, AV.putCells, AV.ref, if_true, if_false, Nat.reduceEqDiff, Nat.reduceAdd, Nat.reduceLT, Nat.reduceLeDiff, reduceCtorEq, ↓reduceIte, pickAV, lenAV, intAV, slcA, slcAV, iaddrAV, extAV, fldAV, eqCell, contAV, appendAV, maxI, minI, Option.some.injEq, catT, List.length_nil, List.length_cons, show ¬ ((1 : Int) < ((0 + 1 : Nat) : Int)) from by decide]
      refine hK _ _ _ (fun _ => rfl) ?_
      clear hK K
      refine CWx.condF rfl (CWx.exit (CWx.go ?_))
      rw [← hq0] at hp hqz hqm hqi hqzl hqp hb
      have e0 : 0 + 1 = q.length := by rw [hq0]; rfl
      have e1 : (AV.sl 1 i 0 (0 + 1)) = .sl 1 i 0 q.length := by rw [← e0]
      rw [e1]
      refine CWx.e fun K hK => ?_
      simp (maxSteps := 4000000) only [amC, amX, dr3, dr4, AV.elem, AV.cells, AV.one, loadAV, faddrAV, binAV, storeAV, AV.putCells, AV.ref, if_true, if_false, Nat.reduceEqDiff, Nat.reduceAdd, Nat.reduceLT, Nat.reduceLeDiff, reduceCtorEq, ↓reduceIte, pickAV, lenAV, intAV, slcA, slcAV, iaddrAV, extAV, fldAV, eqCell, contAV, appendAV, maxI, minI, Option.some.injEq, catT, sizedA, elem_int, AV.cells, beq_self_eq_true, Bool.and_self, hb, hqzl, List.isEmpty_cons, ix_length, Nat.reduceBEq, true_or, or_true]
      refine hK _ _ _ nofun ?_
      clear hK K
      refine CWx.go ?_
      refine CWx.e fun K hK => ?_
      simp (maxSteps := 4000000) only [amC, amX, dr3, dr4, AV.elem, AV.cells, AV.one, loadAV, faddrAV, binAV, storeAV, AV.putCells, AV.ref, if_true, if_false, Nat.reduceEqDiff, Nat.reduceAdd, Nat.reduceLT, Nat.reduceLeDiff, reduceCtorEq, ↓reduceIte, pickAV, lenAV, intAV, slcA, slcAV, iaddrAV, extAV, fldAV, eqCell, contAV, appendAV, maxI, minI, Option.some.injEq, catT, wrap_nat i (by omega)]
      refine hK _ _ _ nofun ?_
      clear hK K
      intro al hal
      have hlen2 : (v :: pop l v st).length = q.length + 1 := by rw [← hqp, hp]; rfl
      refine ⟨(i + 1, v :: pop l v st, (v :: pop l v st).reverse), by simp only; omega, ⟨by simp only; omega, ?_, ?_, ?_, ?_, ?_⟩, Fgt.ofx hal (Fgt.mk' 2 (by simp) ?_ ?_ ⟨rfl, by simp only [Blk.lt, ltL_ix], trivial⟩)⟩
      · exact List.take_of_length_le (by simp)
      · intro x hx
        rcases List.mem_cons.1 hx with rfl | hx
        · exact hov
        · exact pop_mem st hm x hx
      · simp only [hlen2]; omega
      · simp
      · simp only
        rw [foldl_take_succ _ _ _ hvo, ← hst]
      · simp only [hlen2]
        simp [keepB, Am.get, AV.lt, ltL, lt_pts, ltL_ix, pts, ltL_pt]
      · simp [ix_take, hqz, ← hqp, hp]
        simp [ix]
    | b :: a :: r, hqz, hqm, hqi, hqzl, hqp, hb =>
      simp only [List.length_cons] at hqz hqi hqzl hb
      have hnl : decide (i = 0) = false := by simp; omega
      have t0 := take_get (st := b :: a :: r) hqz rfl (show r.length < r.length + 1 + 1 by omega)
      have t1 := take_get (st := b :: a :: r) hqz rfl (show r.length + 1 < r.length + 1 + 1 by omega)
      have z0 := ix_get zs t0.2
      have z1 := ix_get zs t1.2
      rw [t0.1] at z0
      rw [t1.1] at z1
      have e0 : (b :: a :: r).getD (r.length + 1 + 1 - 1 - r.length) 0 = a := by rw [show r.length + 1 + 1 - 1 - r.length = 1 by omega]; rfl
      have e1 : (b :: a :: r).getD (r.length + 1 + 1 - 1 - (r.length + 1)) 0 = b := by rw [show r.length + 1 + 1 - 1 - (r.length + 1) = 0 by omega]; rfl
      rw [e0] at z0
      rw [e1] at z1
      have ba := hqm a (by simp)
      have bb := hqm b (by simp)
      have hpa := get_pts (getp ba)
      have hpb := get_pts (getp bb)
      have p1 : (1 : Int) < ((r.length + 1 + 1 : Nat) : Int) := by omega
      have w2 : IntKind.i64.wrap (((r.length + 1 + 1 : Nat) : Int) - 2) = (r.length : Int) := by rw [wr _ (by omega) (by omega)]; omega
      have w1 : IntKind.i64.wrap (((r.length + 1 + 1 : Nat) : Int) - 1) = ((r.length + 1 : Nat) : Int) := by rw [wr _ (by omega) (by omega)]; omega
      have q1 : ((r.length : Nat) : Int) < ((r.length + 1 + 1 : Nat) : Int) := by omega
      have q2 : ((r.length + 1 : Nat) : Int) < ((r.length + 1 + 1 : Nat) : Int) := by omega
      have ya : (a : Int) < (l.length : Int) := by omega
      have yb : (b : Int) < (l.length : Int) := by omega
      have yv : (v : Int) < (l.length : Int) := by omega
      by_cases hc : left (l.getD a (0, 0)) (l.getD b (0, 0)) (l.getD v (0, 0)) ≤ 0
      · unfold pts
        refine CWx.r fun K hK => ?_
        simp (maxSteps := 4000000) only [amC, amX, dr3, dr4, AV.elem, AV.cells, AV.one, loadAV, faddrAV, binAV, storeAV, AV.putCells, AV.ref, if_true, if_false, Nat.reduceEqDiff, Nat.reduceAdd, Nat.reduceLT, Nat.reduceLeDiff, reduceCtorEq, ↓reduceIte, pickAV, lenAV, intAV, slcA, slcAV, iaddrAV, extAV, fldAV, eqCell, contAV, appendAV, maxI, minI, Option.some.injEq, catT, List.length_cons, hnl, p1, w1, w2, q1, q2, ya, yb, yv, Int.natCast_nonneg, Int.toNat_natCast, z0, z1, hpa, hpb, hpv, AV.cells, List.length_map, pt]
        refine RCx.view (fid := 55) (caps := []) rfl rfl rfl (c55' (all_ok hok ba) (all_ok hok bb) okv) rfl ?_
        simp (maxSteps := 4000000) only [amC, amX, dr3, dr4, AV.elem, AV.cells, AV.one, loadAV, faddrAV, binAV, storeAV, AV.putCells, AV.ref, if_true, if_false, Nat.reduceEqDiff, Nat.reduceAdd, Nat.reduceLT, Nat.reduceLeDiff, reduceCtorEq, ↓reduceIte, pickAV, lenAV, intAV, slcA, slcAV, iaddrAV, extAV, fldAV, eqCell, contAV, appendAV, maxI, minI, Option.some.injEq, catT, hc]
        refine hK _ _ _ (fun _ => rfl) ?_
        clear hK K
        refine CWx.condT rfl (CWx.skip (CWx.go ?_))
        refine CWx.block ?_
        refine CWx.e fun K hK => ?_
        simp (maxSteps := 4000000) only [amC, amX, dr3, dr4, AV.elem, AV.cells, AV.one, loadAV, faddrAV, binAV, storeAV, AV.putCells, AV.ref, if_true, if_false, Nat.reduceEqDiff, Nat.reduceAdd, Nat.reduceLT, Nat.reduceLeDiff, reduceCtorEq, ↓reduceIte, pickAV, lenAV, intAV, slcA, slcAV, iaddrAV, extAV, fldAV, eqCell, contAV, appendAV, maxI, minI, Option.some.injEq, catT, List.length_cons, w1, Int.natCast_nonneg, Int.toNat_natCast, Int.sub_zero, Int.le_refl, show ((r.length + 1 : Nat) : Int) ≤ ((r.length + 1 + 1 : Nat) : Int) from by omega, Int.toNat_zero]
        refine hK _ _ _ nofun ?_
        clear hK K
        intro al hal
        refine ⟨a :: r, by simp, ⟨?_, ?_, ?_, ?_, ?_⟩, Fgt.ofx hal (Fgt.mk' 2 (by simp) (by simp [keepB, Am.get, AV.lt, ltL, lt_pts, ltL_ix, pts, ltL_pt]) (by simp [hnl]) ⟨rfl, by simp only [Blk.lt, ltL_ix], trivial⟩)⟩
        · have := congrArg (List.take (r.length + 1)) hqz
          rw [List.take_take, Nat.min_eq_left (by omega)] at this
          simp only [List.length_cons]
          rw [this, List.reverse_cons, List.take_append_of_le_length (by simp), List.take_of_length_le (by simp)]
        · exact fun x hx => hqm x (by simp [hx])
        · simp only [List.length_cons]; omega
        · simp only [List.length_cons]; omega
        · rw [← hqp]
          simp only [pop]
          rw [if_pos hc]
      · have hp : pop l v (b :: a :: r) = b :: a :: r := by simp only [pop]; rw [if_neg hc]
        unfold pts
        refine CWx.r fun K hK => ?_
        simp (maxSteps := 4000000) only [amC, amX, dr3, dr4, AV.elem, AV.cells, AV.one, loadAV, faddrAV, binAV, storeAV, AV.putCells, AV.ref, if_true, if_false, Nat.reduceEqDiff, Nat.reduceAdd, Nat.reduceLT, Nat.reduceLeDiff, reduceCtorEq, ↓reduceIte, pickAV, lenAV, intAV, slcA, slcAV, iaddrAV, extAV, fldAV, eqCell, contAV, appendAV, maxI, minI, Option.some.injEq, catT, List.length_cons, hnl, p1, w1, w2, q1, q2, ya, yb, yv, Int.natCast_nonneg, Int.toNat_natCast, z0, z1, hpa, hpb, hpv, AV.cells, List.length_map, pt]
        refine RCx.view (fid := 55) (caps := []) rfl rfl rfl (c55' (all_ok hok ba) (all_ok hok bb) okv) rfl ?_
        simp (maxSteps := 4000000) only [amC, amX, dr3, dr4, AV.elem, AV.cells, AV.one, loadAV, faddrAV, binAV, storeAV, AV.putCells, AV.ref, if_true, if_false, Nat.reduceEqDiff, Nat.reduceAdd, Nat.reduceLT, Nat.reduceLeDiff, reduceCtorEq, ↓reduceIte, pickAV, lenAV, intAV, slcA, slcAV, iaddrAV, extAV, fldAV, eqCell, contAV, appendAV, maxI, minI, Option.some.injEq, catT, hc]
        refine hK _ _ _ (fun _ => rfl) ?_
        clear hK K
        obtain ⟨q, hq0⟩ : ∃ q : List Nat, q = b :: a :: r := ⟨_, rfl⟩
        refine CWx.condF rfl (CWx.exit (CWx.go ?_))
        have e0' : r.length + 1 + 1 = q.length := by rw [hq0]; rfl
        rw [← hq0] at hp hqm hqp
        rw [e0'] at hqz hqi hqzl hb
        rw [← hq0] at hqz
        have e1' : (AV.sl 1 i 0 (r.length + 1 + 1)) = .sl 1 i 0 q.length := by rw [← e0']
        rw [e1']
        refine CWx.e fun K hK => ?_
        simp (maxSteps := 4000000) only [amC, amX, dr3, dr4, AV.elem, AV.cells, AV.one, loadAV, faddrAV, binAV, storeAV, AV.putCells, AV.ref, if_true, if_false, Nat.reduceEqDiff, Nat.reduceAdd, Nat.reduceLT, Nat.reduceLeDiff, reduceCtorEq, ↓reduceIte, pickAV, lenAV, intAV, slcA, slcAV, iaddrAV, extAV, fldAV, eqCell, contAV, appendAV, maxI, minI, Option.some.injEq, catT, sizedA, elem_int, AV.cells, beq_self_eq_true, Bool.and_self, hb, hqzl, List.isEmpty_cons, ix_length, Nat.reduceBEq, true_or, or_true]
        refine hK _ _ _ nofun ?_
        clear hK K
        refine CWx.go ?_
        refine CWx.e fun K hK => ?_
        simp (maxSteps := 4000000) only [amC, amX, dr3, dr4, AV.elem, AV.cells, AV.one, loadAV, faddrAV, binAV, storeAV, AV.putCells, AV.ref, if_true, if_false, Nat.reduceEqDiff, Nat.reduceAdd, Nat.reduceLT, Nat.reduceLeDiff, reduceCtorEq, ↓reduceIte, pickAV, lenAV, intAV, slcA, slcAV, iaddrAV, extAV, fldAV, eqCell, contAV, appendAV, maxI, minI, Option.some.injEq, catT, wrap_nat i (by omega)]
        refine hK _ _ _ nofun ?_
        clear hK K
        intro al hal
        have hlen2 : (v :: pop l v st).length = q.length + 1 := by rw [← hqp, hp]; rfl
        refine ⟨(i + 1, v :: pop l v st, (v :: pop l v st).reverse), by simp only; omega, ⟨by simp only; omega, ?_, ?_, ?_, ?_, ?_⟩, Fgt.ofx hal (Fgt.mk' 2 (by simp) ?_ ?_ ⟨rfl, by simp only [Blk.lt, ltL_ix], trivial⟩)⟩
        · exact List.take_of_length_le (by simp)
        · intro x hx
          rcases List.mem_cons.1 hx with rfl | hx
          · exact hov
          · exact pop_mem st hm x hx
        · simp only [hlen2]; omega
        · simp
        · simp only
          rw [foldl_take_succ _ _ _ hvo, ← hst]
        · simp only [hlen2]
          simp [keepB, Am.get, AV.lt, ltL, lt_pts, ltL_ix, pts, ltL_pt]
        · simp [ix_take, hqz, ← hqp, hp]
          simp [ix]
  · refine CWx.r fun K hK => ?_
    simp (maxSteps := 4000000) only [amC, amX, dr3, dr4, AV.elem, AV.cells, AV.one, loadAV, faddrAV, binAV, storeAV, AV.putCells, AV.ref, if_true, if_false, Nat.reduceEqDiff, Nat.reduceAdd, Nat.reduceLT, Nat.reduceLeDiff, reduceCtorEq, ↓reduceIte, pickAV, lenAV, intAV, slcA, slcAV, iaddrAV, extAV, fldAV, eqCell, contAV, appendAV, maxI, minI, Option.some.injEq, catT, h]
    refine hK _ _ _ nofun ?_
    clear hK K
    refine CWx.seq ?_
    refine CWx.condF rfl (CWx.exit (CWx.go ?_))
    have hio : i = ord.length := by omega
    have hst2 : st = chainS l ord := by rw [hst, hio, List.take_length]; rfl
    have hpos : 0 < st.length := by
      rw [hst2]
      exact chain_pos ord [] hne
    have w1 : IntKind.i64.wrap ((st.length : Int) - 1) = ((st.length - 1 : Nat) : Int) := by rw [wr _ (by omega) (by omega)]; omega
    refine CWx.r fun K hK => ?_
    simp (maxSteps := 4000000) only [amC, amX, dr3, dr4, AV.elem, AV.cells, AV.one, loadAV, faddrAV, binAV, storeAV, AV.putCells, AV.ref, if_true, if_false, Nat.reduceEqDiff, Nat.reduceAdd, Nat.reduceLT, Nat.reduceLeDiff, reduceCtorEq, ↓reduceIte, pickAV, lenAV, intAV, slcA, slcAV, iaddrAV, extAV, fldAV, eqCell, contAV, appendAV, maxI, minI, Option.some.injEq, catT, w1, Int.natCast_nonneg, Int.toNat_natCast, Int.sub_zero, Int.le_refl, Int.toNat_zero, show ((st.length - 1 : Nat) : Int) ≤ (st.length : Int) from by omega]
    refine hK _ _ _ nofun ?_
    clear hK K
    have hi0 : decide (i = 0) = false := by
      simp
      rintro rfl
      exact hne (List.eq_nil_of_length_eq_zero hio.symm)
    have hzz : zs = (chainS l ord).reverse := by rw [← hst2, ← hz, ← hzl, List.take_length]
    refine CWx.ret fun al hal => finK_ext hal (finK_new (.inr rfl) (xs := [.sl 1 i 0 (st.length - 1)]) (b := 1) (g := i) (nil := false) (ys := ix (chainS l ord).reverse) (by simp [resRV, Am.get]) (by simp only [hget, List.getElem?_cons_succ, List.getElem?_cons_zero, Option.getD_some, hi0, hzz]) (allRL_ix _ _ _) ?_ ?_)
    · simp [tupAV, AV.allR, sigP]
    · simp [tupAV, AV.mapR, sigF, hst2]
end Go.Hull
end
section
set_option linter.unusedSimpArgs false
set_option linter.unusedVariables false
set_option maxHeartbeats 2000000
namespace Go.Hull
open Go Go.Am Go.Proofs

def sameB (l : List Pt) (a b : Nat) : Bool := eqP (l.getD a (0, 0)) (l.getD b (0, 0))
/-- The second half of leaving out: k0 is where the first equal one stands. -/
def compIn (eq : Nat → Nat → Bool) (k0 : Nat) : Nat → Nat → Nat → List Nat → List Nat × Nat
  | 0, _, k, xs => (xs, k)
  | f + 1, k2, k, xs => if eq (xs.getD (k0 + k2) 0) (xs.getD (k0 + k2 - 1) 0) = true then compIn eq k0 f (k2 + 1) k xs else compIn eq k0 f (k2 + 1) (k + 1) (xs.set k (xs.getD (k0 + k2) 0))
def zeroed (n : Nat) (q : List Nat × Nat) : List Nat × Nat := (q.1.take q.2 ++ List.replicate (n - q.2) 0, q.2)
def compOut (eq : Nat → Nat → Bool) : Nat → Nat → List Nat → List Nat × Nat
  | 0, _, xs => (xs, xs.length)
  | f + 1, k, xs => if eq (xs.getD k 0) (xs.getD (k - 1) 0) = true then zeroed xs.length (compIn eq k (xs.length - k - 1) 1 k xs) else compOut eq f (k + 1) xs
def compact (eq : Nat → Nat → Bool) (xs : List Nat) : List Nat × Nat := if xs.length < 2 then (xs, xs.length) else compOut eq (xs.length - 1) 1 xs
theorem ix_append (xs ys : List Nat) : ix xs ++ ix ys = ix (xs ++ ys) := by simp [ix]
theorem c84 (l : List Pt) (g : Nat) (xs : List Nat) (hx : ∀ x ∈ xs, x < l.length) (hn : xs.length < 1000) :
    CallsF Try.prog 84 [.sl 0 g 0 xs.length, .clo 85 [.rp true [pts l]]] [.row false g false 1 (ix xs)] (.sl 0 g 0 (compact (sameB l) xs).2) [.row false g false 1 (ix (compact (sameB l) xs).1)] := by
  refine callsF_cw hm hf84 (by simp [cf84]) ?_
  simp only [cf84, argsAl]
  refine CW.rI fun K hK => ?_
  simp (maxSteps := 4000000) only [amC, amR, setO, Am.set, dr3, dr4, AV.elem, AV.cells, AV.one, loadAV, faddrAV, binAV, storeAV, AV.putCells, AV.ref, if_true, if_false, Nat.reduceEqDiff, Nat.reduceAdd, Nat.reduceLT, Nat.reduceLeDiff, reduceCtorEq, ↓reduceIte, pickAV, lenAV, intAV, slcA, slcAV, iaddrAV, extAV, fldAV, eqCell, contAV, appendAV, maxI, minI, Option.some.injEq, catT]
  refine hK _ _ nofun ?_
  clear hK K
  refine CW.seq ?_
  by_cases h2 : (xs.length : Int) < 2
  · have hc : compact (sameB l) xs = (xs, xs.length) := by unfold compact; rw [if_pos (by omega)]
    rw [hc]
    refine CW.rI fun K hK => ?_
    simp (maxSteps := 4000000) only [amC, amR, setO, Am.set, dr3, dr4, AV.elem, AV.cells, AV.one, loadAV, faddrAV, binAV, storeAV, AV.putCells, AV.ref, if_true, if_false, Nat.reduceEqDiff, Nat.reduceAdd, Nat.reduceLT, Nat.reduceLeDiff, reduceCtorEq, ↓reduceIte, pickAV, lenAV, intAV, slcA, slcAV, iaddrAV, extAV, fldAV, eqCell, contAV, appendAV, maxI, minI, Option.some.injEq, catT, h2]
    refine hK _ _ nofun ?_
    clear hK K
    refine CW.condT rfl ?_
    refine CW.rI fun K hK => ?_
    simp (maxSteps := 4000000) only [amC, amR, setO, Am.set, dr3, dr4, AV.elem, AV.cells, AV.one, loadAV, faddrAV, binAV, storeAV, AV.putCells, AV.ref, if_true, if_false, Nat.reduceEqDiff, Nat.reduceAdd, Nat.reduceLT, Nat.reduceLeDiff, reduceCtorEq, ↓reduceIte, pickAV, lenAV, intAV, slcA, slcAV, iaddrAV, extAV, fldAV, eqCell, contAV, appendAV, maxI, minI, Option.some.injEq, catT]
    refine hK _ _ nofun ?_
    clear hK K
    exact CW.ret (finK_rows (.inr rfl) (xs := [.sl 0 g 0 xs.length]) (by simp [resRV, Am.get]) rfl rfl rfl (by simp) rfl (fun b hb => by rw [List.mem_singleton.1 hb]; simp only [Blk.allR, allRL_ix]))
  · have hc0 : compact (sameB l) xs = compOut (sameB l) (xs.length - 1) 1 xs := by unfold compact; rw [if_neg (by omega)]
    refine CW.rI fun K hK => ?_
    simp (maxSteps := 4000000) only [amC, amR, setO, Am.set, dr3, dr4, AV.elem, AV.cells, AV.one, loadAV, faddrAV, binAV, storeAV, AV.putCells, AV.ref, if_true, if_false, Nat.reduceEqDiff, Nat.reduceAdd, Nat.reduceLT, Nat.reduceLeDiff, reduceCtorEq, ↓reduceIte, pickAV, lenAV, intAV, slcA, slcAV, iaddrAV, extAV, fldAV, eqCell, contAV, appendAV, maxI, minI, Option.some.injEq, catT, h2]
    refine hK _ _ nofun ?_
    clear hK K
    refine CW.condF rfl (CW.skip ?_)
    show CW _ _ _ _ _ _
    refine CW.seq ?_
    refine CW.rI fun K hK => ?_
    simp (maxSteps := 4000000) only [amC, amR, setO, Am.set, dr3, dr4, AV.elem, AV.cells, AV.one, loadAV, faddrAV, binAV, storeAV, AV.putCells, AV.ref, if_true, if_false, Nat.reduceEqDiff, Nat.reduceAdd, Nat.reduceLT, Nat.reduceLeDiff, reduceCtorEq, ↓reduceIte, pickAV, lenAV, intAV, slcA, slcAV, iaddrAV, extAV, fldAV, eqCell, contAV, appendAV, maxI, minI, Option.some.injEq, catT]
    refine hK _ _ nofun ?_
    clear hK K
    refine CW.block ?_
    refine CW.loopF (fun k : Nat => xs.length - k) (fun k => ⟨[(0, .sl 0 g 0 xs.length), (1, .clo 85 [.rp true [pts l]]), (5, .int .i64 (k : Int))], [.row false g false 1 (ix xs)]⟩)
      (fun k => 1 ≤ k ∧ k ≤ xs.length ∧ compOut (sameB l) (xs.length - k) k xs = compact (sameB l) xs) (fun k hk => ?_) 1 ⟨Nat.le_refl _, by omega, hc0.symm⟩ _ (Fgt.mk' 1 (by simp) (by simp [keepB, Am.get, AV.lt, ltL, lt_pts]) rfl ⟨by simp only [Blk.lt, ltL_ix], trivial⟩)
    obtain ⟨hk1, hk2, hkc⟩ := hk
    refine CW.seq ?_
    by_cases h : (k : Int) < (xs.length : Int)
    · refine CW.rI fun K hK => ?_
      simp (maxSteps := 4000000) only [amC, amR, setO, Am.set, dr3, dr4, AV.elem, AV.cells, AV.one, loadAV, faddrAV, binAV, storeAV, AV.putCells, AV.ref, if_true, if_false, Nat.reduceEqDiff, Nat.reduceAdd, Nat.reduceLT, Nat.reduceLeDiff, reduceCtorEq, ↓reduceIte, pickAV, lenAV, intAV, slcA, slcAV, iaddrAV, extAV, fldAV, eqCell, contAV, appendAV, maxI, minI, Option.some.injEq, catT, h]
      refine hK _ _ nofun ?_
      clear hK K
      refine CW.condT rfl (CW.skip ?_)
      show CW _ _ _ _ _ _
      refine CW.seq ?_
      refine CW.block ?_
      obtain ⟨j, rfl⟩ : ∃ j, k = j + 1 := ⟨k - 1, by omega⟩
      have hj1 : j + 1 < xs.length := by omega
      have g1 := ix_get xs hj1
      have g0 := ix_get xs (show j < xs.length by omega)
      have b1 := getD_lt hx hj1
      have b0 := getD_lt hx (show j < xs.length by omega)
      have w1 := wrap_pred j (by omega)
      have p3 : ((j : Nat) : Int) < ((xs.length : Nat) : Int) := by omega
      have hf : xs.length - (j + 1) = (xs.length - (j + 1) - 1) + 1 := by omega
      rw [hf] at hkc
      simp only [compOut, Nat.add_sub_cancel] at hkc
      refine CW.rI fun K hK => ?_
      simp (maxSteps := 4000000) only [amC, amR, setO, Am.set, dr3, dr4, AV.elem, AV.cells, AV.one, loadAV, faddrAV, binAV, storeAV, AV.putCells, AV.ref, if_true, if_false, Nat.reduceEqDiff, Nat.reduceAdd, Nat.reduceLT, Nat.reduceLeDiff, reduceCtorEq, ↓reduceIte, pickAV, lenAV, intAV, slcA, slcAV, iaddrAV, extAV, fldAV, eqCell, contAV, appendAV, maxI, minI, Option.some.injEq, catT, h, w1, p3, Int.natCast_nonneg, Int.toNat_natCast, g1, g0, AV.cells]
      refine RunCall.view (fid := 85) (caps := [.rp true [pts l]]) rfl rfl (viewArgs_flat3 rfl rfl (flat_rp l)) (c85 (getp b1) (getp b0)) rfl ?_
      simp (maxSteps := 4000000) only [amC, amR, setO, Am.set, dr3, dr4, AV.elem, AV.cells, AV.one, loadAV, faddrAV, binAV, storeAV, AV.putCells, AV.ref, if_true, if_false, Nat.reduceEqDiff, Nat.reduceAdd, Nat.reduceLT, Nat.reduceLeDiff, reduceCtorEq, ↓reduceIte, pickAV, lenAV, intAV, slcA, slcAV, iaddrAV, extAV, fldAV, eqCell, contAV, appendAV, maxI, minI, Option.some.injEq, catT]
      refine hK _ _ (fun _ => rfl) ?_
      clear hK K
      by_cases he : sameB l (xs.getD (j + 1) 0) (xs.getD j 0) = true
      · rw [if_pos he] at hkc
        have he' : eqP (l.getD (xs.getD (j + 1) 0) (0, 0)) (l.getD (xs.getD j 0) (0, 0)) = true := he
        rw [he']
        refine CW.condT rfl ?_
        refine CW.rI fun K hK => ?_
        simp (maxSteps := 4000000) only [amC, amR, setO, Am.set, dr3, dr4, AV.elem, AV.cells, AV.one, loadAV, faddrAV, binAV, storeAV, AV.putCells, AV.ref, if_true, if_false, Nat.reduceEqDiff, Nat.reduceAdd, Nat.reduceLT, Nat.reduceLeDiff, reduceCtorEq, ↓reduceIte, pickAV, lenAV, intAV, slcA, slcAV, iaddrAV, extAV, fldAV, eqCell, contAV, appendAV, maxI, minI, Option.some.injEq, catT, Int.natCast_nonneg, Int.toNat_natCast, show ((j + 1 : Nat) : Int) ≤ ((xs.length : Nat) : Int) from by omega, Int.le_refl]
        refine hK _ _ nofun ?_
        clear hK K
        have en : (((xs.length : Nat) : Int) - ((j + 1 : Nat) : Int)).toNat = xs.length - (j + 1) := by omega
        rw [en]
        refine CW.seq ?_
        refine CW.rI fun K hK => ?_
        simp (maxSteps := 4000000) only [amC, amR, setO, Am.set, dr3, dr4, AV.elem, AV.cells, AV.one, loadAV, faddrAV, binAV, storeAV, AV.putCells, AV.ref, if_true, if_false, Nat.reduceEqDiff, Nat.reduceAdd, Nat.reduceLT, Nat.reduceLeDiff, reduceCtorEq, ↓reduceIte, pickAV, lenAV, intAV, slcA, slcAV, iaddrAV, extAV, fldAV, eqCell, contAV, appendAV, maxI, minI, Option.some.injEq, catT]
        refine hK _ _ nofun ?_
        clear hK K
        refine CW.block ?_
        refine CW.loopF (fun q : Nat × Nat × List Nat => xs.length - q.1) (fun q => ⟨[(0, .sl 0 g 0 xs.length), (1, .clo 85 [.rp true [pts l]]), (5, .int .i64 (q.2.1 : Int)), (6, .sl 0 g (j + 1) (xs.length - (j + 1))), (7, .int .i64 (q.1 : Int))], [.row false g false 1 (ix q.2.2)]⟩)
          (fun q => 1 ≤ q.1 ∧ (j + 1) + q.1 ≤ xs.length ∧ q.2.2.length = xs.length ∧ (∀ x ∈ q.2.2, x < l.length) ∧ q.2.1 < (j + 1) + q.1 ∧ zeroed xs.length (compIn (sameB l) (j + 1) (xs.length - (j + 1) - q.1) q.1 q.2.1 q.2.2) = compact (sameB l) xs) (fun q hq => ?_) (1, j + 1, xs) ⟨Nat.le_refl _, by simp only; omega, rfl, hx, by simp only; omega, hkc⟩ _ (Fgt.mk' 1 (by simp) (by simp [keepB, Am.get, AV.lt, ltL, lt_pts]) rfl ⟨by simp only [Blk.lt, ltL_ix], trivial⟩)
        obtain ⟨k2, k, ys⟩ := q
        obtain ⟨q1, q2, q3, q4, q5, q6⟩ := hq
        simp only at q1 q2 q3 q4 q5 q6
        refine CW.seq ?_
        by_cases hk2' : (k2 : Int) < ((xs.length - (j + 1) : Nat) : Int)
        · refine CW.rI fun K hK => ?_
          simp (maxSteps := 4000000) only [amC, amR, setO, Am.set, dr3, dr4, AV.elem, AV.cells, AV.one, loadAV, faddrAV, binAV, storeAV, AV.putCells, AV.ref, if_true, if_false, Nat.reduceEqDiff, Nat.reduceAdd, Nat.reduceLT, Nat.reduceLeDiff, reduceCtorEq, ↓reduceIte, pickAV, lenAV, intAV, slcA, slcAV, iaddrAV, extAV, fldAV, eqCell, contAV, appendAV, maxI, minI, Option.some.injEq, catT, hk2']
          refine hK _ _ nofun ?_
          clear hK K
          refine CW.condT rfl (CW.skip ?_)
          show CW _ _ _ _ _ _
          refine CW.seq ?_
          refine CW.block ?_
          obtain ⟨m, rfl⟩ : ∃ m, k2 = m + 1 := ⟨k2 - 1, by omega⟩
          have i1 : j + 1 + (m + 1) < ys.length := by omega
          have g1' := ix_get ys i1
          have g0' := ix_get ys (show j + 1 + m < ys.length by omega)
          have b1' := getD_lt q4 i1
          have b0' := getD_lt q4 (show j + 1 + m < ys.length by omega)
          have w1' := wrap_pred m (by omega)
          have p3' : ((m : Nat) : Int) < ((xs.length - (j + 1) : Nat) : Int) := by omega
          have hf' : xs.length - (j + 1) - (m + 1) = (xs.length - (j + 1) - (m + 1 + 1)) + 1 := by omega
          rw [hf'] at q6
          simp only [compIn] at q6
          rw [show j + 1 + (m + 1) - 1 = j + 1 + m by omega] at q6
          refine CW.rI fun K hK => ?_
          simp (maxSteps := 4000000) only [amC, amR, setO, Am.set, dr3, dr4, AV.elem, AV.cells, AV.one, loadAV, faddrAV, binAV, storeAV, AV.putCells, AV.ref, if_true, if_false, Nat.reduceEqDiff, Nat.reduceAdd, Nat.reduceLT, Nat.reduceLeDiff, reduceCtorEq, ↓reduceIte, pickAV, lenAV, intAV, slcA, slcAV, iaddrAV, extAV, fldAV, eqCell, contAV, appendAV, maxI, minI, Option.some.injEq, catT, hk2', w1', p3', Int.natCast_nonneg, Int.toNat_natCast, g1', g0', AV.cells]
          refine RunCall.view (fid := 85) (caps := [.rp true [pts l]]) rfl rfl (viewArgs_flat3 rfl rfl (flat_rp l)) (c85 (getp b1') (getp b0')) rfl ?_
          by_cases he2 : sameB l (ys.getD (j + 1 + (m + 1)) 0) (ys.getD (j + 1 + m) 0) = true
          · rw [if_pos he2] at q6
            have he2' : eqP (l.getD (ys.getD (j + 1 + (m + 1)) 0) (0, 0)) (l.getD (ys.getD (j + 1 + m) 0) (0, 0)) = true := he2
            rw [he2']
            simp (maxSteps := 4000000) only [amC, amR, setO, Am.set, dr3, dr4, AV.elem, AV.cells, AV.one, loadAV, faddrAV, binAV, storeAV, AV.putCells, AV.ref, if_true, if_false, Nat.reduceEqDiff, Nat.reduceAdd, Nat.reduceLT, Nat.reduceLeDiff, reduceCtorEq, ↓reduceIte, pickAV, lenAV, intAV, slcA, slcAV, iaddrAV, extAV, fldAV, eqCell, contAV, appendAV, maxI, minI, Option.some.injEq, catT]
            refine hK _ _ (fun _ => rfl) ?_
            clear hK K
            refine CW.condF rfl (CW.skip ?_)
            show CW _ _ _ _ _ _
            refine CW.rE fun K hK => ?_
            simp (maxSteps := 4000000) only [amC, amR, setO, Am.set, dr3, dr4, AV.elem, AV.cells, AV.one, loadAV, faddrAV, binAV, storeAV, AV.putCells, AV.ref, if_true, if_false, Nat.reduceEqDiff, Nat.reduceAdd, Nat.reduceLT, Nat.reduceLeDiff, reduceCtorEq, ↓reduceIte, pickAV, lenAV, intAV, slcA, slcAV, iaddrAV, extAV, fldAV, eqCell, contAV, appendAV, maxI, minI, Option.some.injEq, catT, wrap_nat (m + 1) (by omega)]
            refine hK _ _ nofun ?_
            clear hK K
            exact ⟨(m + 1 + 1, k, ys), by simp only; omega, ⟨by simp only; omega, by simp only; omega, q3, q4, by simp only; omega, q6⟩, Fgt.mk' 1 (by simp) (by simp [keepB, Am.get, AV.lt, ltL, lt_pts]) rfl ⟨by simp only [Blk.lt, ltL_ix], trivial⟩⟩
          · rw [if_neg he2] at q6
            have he2' : eqP (l.getD (ys.getD (j + 1 + (m + 1)) 0) (0, 0)) (l.getD (ys.getD (j + 1 + m) 0) (0, 0)) = false := by simpa [sameB] using he2
            rw [he2']
            have hkl : (k : Int) < ((xs.length : Nat) : Int) := by omega
            have gk := ix_get ys (show k < ys.length by omega)
            simp (maxSteps := 4000000) only [amC, amR, setO, Am.set, dr3, dr4, AV.elem, AV.cells, AV.one, loadAV, faddrAV, binAV, storeAV, AV.putCells, AV.ref, if_true, if_false, Nat.reduceEqDiff, Nat.reduceAdd, Nat.reduceLT, Nat.reduceLeDiff, reduceCtorEq, ↓reduceIte, pickAV, lenAV, intAV, slcA, slcAV, iaddrAV, extAV, fldAV, eqCell, contAV, appendAV, maxI, minI, Option.some.injEq, catT]
            refine hK _ _ (fun _ => rfl) ?_
            clear hK K
            refine CW.condT rfl ?_
            refine CW.rI fun K hK => ?_
            simp (maxSteps := 4000000) only [amC, amR, setO, Am.set, dr3, dr4, AV.elem, AV.cells, AV.one, loadAV, faddrAV, binAV, storeAV, AV.putCells, AV.ref, if_true, if_false, Nat.reduceEqDiff, Nat.reduceAdd, Nat.reduceLT, Nat.reduceLeDiff, reduceCtorEq, ↓reduceIte, pickAV, lenAV, intAV, slcA, slcAV, iaddrAV, extAV, fldAV, eqCell, contAV, appendAV, maxI, minI, Option.some.injEq, catT, hk2', hkl, Int.natCast_nonneg, Int.toNat_natCast, g1', gk, AV.cells, AV.elem, AV.one, List.all_cons, List.all_nil, ix_set]
            refine hK _ _ nofun ?_
            clear hK K
            refine CW.rE fun K hK => ?_
            simp (maxSteps := 4000000) only [amC, amR, setO, Am.set, dr3, dr4, AV.elem, AV.cells, AV.one, loadAV, faddrAV, binAV, storeAV, AV.putCells, AV.ref, if_true, if_false, Nat.reduceEqDiff, Nat.reduceAdd, Nat.reduceLT, Nat.reduceLeDiff, reduceCtorEq, ↓reduceIte, pickAV, lenAV, intAV, slcA, slcAV, iaddrAV, extAV, fldAV, eqCell, contAV, appendAV, maxI, minI, Option.some.injEq, catT, wrap_nat k (by omega)]
            refine hK _ _ nofun ?_
            clear hK K
            refine CW.rE fun K hK => ?_
            simp (maxSteps := 4000000) only [amC, amR, setO, Am.set, dr3, dr4, AV.elem, AV.cells, AV.one, loadAV, faddrAV, binAV, storeAV, AV.putCells, AV.ref, if_true, if_false, Nat.reduceEqDiff, Nat.reduceAdd, Nat.reduceLT, Nat.reduceLeDiff, reduceCtorEq, ↓reduceIte, pickAV, lenAV, intAV, slcA, slcAV, iaddrAV, extAV, fldAV, eqCell, contAV, appendAV, maxI, minI, Option.some.injEq, catT, wrap_nat (m + 1) (by omega)]
            refine hK _ _ nofun ?_
            clear hK K
            refine ⟨(m + 1 + 1, k + 1, ys.set k (ys.getD (j + 1 + (m + 1)) 0)), by simp only; omega, ⟨by simp only; omega, by simp only; omega, by simp [q3], ?_, by simp only; omega, q6⟩, Fgt.mk' 1 (by simp) (by simp [keepB, Am.get, AV.lt, ltL, lt_pts]) rfl ⟨by simp only [Blk.lt, ltL_ix], trivial⟩⟩
            intro x hx'
            rcases List.mem_or_eq_of_mem_set hx' with h1 | h1
            · exact q4 x h1
            · rw [h1]; exact b1'
        · refine CW.rI fun K hK => ?_
          simp (maxSteps := 4000000) only [amC, amR, setO, Am.set, dr3, dr4, AV.elem, AV.cells, AV.one, loadAV, faddrAV, binAV, storeAV, AV.putCells, AV.ref, if_true, if_false, Nat.reduceEqDiff, Nat.reduceAdd, Nat.reduceLT, Nat.reduceLeDiff, reduceCtorEq, ↓reduceIte, pickAV, lenAV, intAV, slcA, slcAV, iaddrAV, extAV, fldAV, eqCell, contAV, appendAV, maxI, minI, Option.some.injEq, catT, hk2']
          refine hK _ _ nofun ?_
          clear hK K
          refine CW.condF rfl (CW.exit ?_)
          show CW _ _ _ _ _ _
          have hz : xs.length - (j + 1) - k2 = 0 := by omega
          rw [hz] at q6
          simp only [compIn, zeroed] at q6
          have hkl : (k : Int) ≤ ((xs.length : Nat) : Int) := by omega
          have en2 : (((xs.length : Nat) : Int) - (k : Int)).toNat = xs.length - k := by omega
          have hfit : k + (xs.length - k) ≤ (ix ys).length := by rw [ix_length]; omega
          refine CW.rI fun K hK => ?_
          simp (maxSteps := 4000000) only [amC, amR, setO, Am.set, dr3, dr4, AV.elem, AV.cells, AV.one, loadAV, faddrAV, binAV, storeAV, AV.putCells, AV.ref, if_true, if_false, Nat.reduceEqDiff, Nat.reduceAdd, Nat.reduceLT, Nat.reduceLeDiff, reduceCtorEq, ↓reduceIte, pickAV, lenAV, intAV, slcA, slcAV, iaddrAV, extAV, fldAV, eqCell, contAV, appendAV, maxI, minI, Option.some.injEq, catT, hkl, Int.natCast_nonneg, Int.toNat_natCast, Int.le_refl, en2, clearAV, hfit, show (AV.int .i64 (0 : Int)).elem = true from rfl, show (AV.int .i64 (0 : Int)).cells.length = 1 from rfl, or_true]
          refine hK _ _ nofun ?_
          clear hK K
          refine CW.rI fun K hK => ?_
          simp (maxSteps := 4000000) only [amC, amR, setO, Am.set, dr3, dr4, AV.elem, AV.cells, AV.one, loadAV, faddrAV, binAV, storeAV, AV.putCells, AV.ref, if_true, if_false, Nat.reduceEqDiff, Nat.reduceAdd, Nat.reduceLT, Nat.reduceLeDiff, reduceCtorEq, ↓reduceIte, pickAV, lenAV, intAV, slcA, slcAV, iaddrAV, extAV, fldAV, eqCell, contAV, appendAV, maxI, minI, Option.some.injEq, catT, hkl, Int.natCast_nonneg, Int.toNat_natCast, Int.le_refl, Int.sub_zero, Int.toNat_zero]
          refine hK _ _ nofun ?_
          clear hK K
          have e1 : (ix ys).take k ++ List.replicate (xs.length - k) (AV.int .i64 0) ++ (ix ys).drop (k + (xs.length - k)) = ix (compact (sameB l) xs).1 := by
            rw [← q6]
            rw [List.drop_of_length_le (by rw [ix_length]; omega), List.append_nil, ix_take]
            simp [ix]
          have e2 : k = (compact (sameB l) xs).2 := by rw [← q6]
          exact CW.ret (finK_rows (.inr rfl) (xs := [.sl 0 g 0 (compact (sameB l) xs).2]) (by simp [resRV, Am.get, e2]) rfl rfl rfl (by simp) (by simp [← e1]) (fun b hb => by rw [List.mem_singleton.1 hb]; simp only [Blk.allR, allRL_ix]))
      · rw [if_neg he] at hkc
        have he' : eqP (l.getD (xs.getD (j + 1) 0) (0, 0)) (l.getD (xs.getD j 0) (0, 0)) = false := by simpa [sameB] using he
        rw [he']
        refine CW.condF rfl (CW.skip ?_)
        show CW _ _ _ _ _ _
        refine CW.rE fun K hK => ?_
        simp (maxSteps := 4000000) only [amC, amR, setO, Am.set, dr3, dr4, AV.elem, AV.cells, AV.one, loadAV, faddrAV, binAV, storeAV, AV.putCells, AV.ref, if_true, if_false, Nat.reduceEqDiff, Nat.reduceAdd, Nat.reduceLT, Nat.reduceLeDiff, reduceCtorEq, ↓reduceIte, pickAV, lenAV, intAV, slcA, slcAV, iaddrAV, extAV, fldAV, eqCell, contAV, appendAV, maxI, minI, Option.some.injEq, catT, wrap_nat (j + 1) (by omega)]
        refine hK _ _ nofun ?_
        clear hK K
        exact ⟨j + 1 + 1, by omega, ⟨by omega, by omega, hkc⟩, Fgt.mk' 1 (by simp) (by simp [keepB, Am.get, AV.lt, ltL, lt_pts]) rfl ⟨by simp only [Blk.lt, ltL_ix], trivial⟩⟩
    · refine CW.rI fun K hK => ?_
      simp (maxSteps := 4000000) only [amC, amR, setO, Am.set, dr3, dr4, AV.elem, AV.cells, AV.one, loadAV, faddrAV, binAV, storeAV, AV.putCells, AV.ref, if_true, if_false, Nat.reduceEqDiff, Nat.reduceAdd, Nat.reduceLT, Nat.reduceLeDiff, reduceCtorEq, ↓reduceIte, pickAV, lenAV, intAV, slcA, slcAV, iaddrAV, extAV, fldAV, eqCell, contAV, appendAV, maxI, minI, Option.some.injEq, catT, h]
      refine hK _ _ nofun ?_
      clear hK K
      refine CW.condF rfl (CW.exit ?_)
      show CW _ _ _ _ _ _
      have hz : xs.length - k = 0 := by omega
      rw [hz] at hkc
      simp only [compOut] at hkc
      rw [← hkc]
      refine CW.rI fun K hK => ?_
      simp (maxSteps := 4000000) only [amC, amR, setO, Am.set, dr3, dr4, AV.elem, AV.cells, AV.one, loadAV, faddrAV, binAV, storeAV, AV.putCells, AV.ref, if_true, if_false, Nat.reduceEqDiff, Nat.reduceAdd, Nat.reduceLT, Nat.reduceLeDiff, reduceCtorEq, ↓reduceIte, pickAV, lenAV, intAV, slcA, slcAV, iaddrAV, extAV, fldAV, eqCell, contAV, appendAV, maxI, minI, Option.some.injEq, catT]
      refine hK _ _ nofun ?_
      clear hK K
      exact CW.ret (finK_rows (.inr rfl) (xs := [.sl 0 g 0 xs.length]) (by simp [resRV, Am.get]) rfl rfl rfl (by simp) rfl (fun b hb => by rw [List.mem_singleton.1 hb]; simp only [Blk.allR, allRL_ix]))
end Go.Hull
end
section
set_option linter.unusedSimpArgs false
set_option linter.unusedVariables false
set_option maxHeartbeats 2000000
namespace Go.Hull
open Go Go.Am Go.Proofs

theorem c87' (g n : Nat) (xs : List Nat) (hnx : n ≤ xs.length) (hn : n < 4611686018427387904) :
    CallsF Try.prog 87 [.sl 0 g 0 n] [.row false g false 1 (ix xs)] (.tup []) [.row false g false 1 (ix (rv n n 0 xs))] := by
  have hw : IntKind.i64.wrap ((n : Int) - 1) = (n : Int) - 1 := wr _ (by omega) (by omega)
  refine callsF_cw hm hf87 (by simp [cf87]) ?_
  simp only [cf87, argsAl]
  refine CW.rI fun K hK => ?_
  simp (maxSteps := 4000000) only [amC, amR, setO, Am.set, dr3, dr4, AV.elem, AV.cells, AV.one, loadAV, faddrAV, binAV, storeAV, AV.putCells, AV.ref, if_true, if_false, Nat.reduceEqDiff, Nat.reduceAdd, Nat.reduceLT, Nat.reduceLeDiff, reduceCtorEq, ↓reduceIte, pickAV, lenAV, intAV, slcA, slcAV, iaddrAV, extAV, fldAV, eqCell, contAV, appendAV, maxI, minI, Option.some.injEq, catT, hw]
  refine hK _ _ nofun ?_
  clear hK K
  refine CW.block ?_
  refine CW.loopF (fun q : Nat × List Nat => n - q.1) (fun q => ⟨[(0, .sl 0 g 0 n), (2, .int .i64 (q.1 : Int)), (3, .int .i64 ((n : Int) - 1 - (q.1 : Int)))], [.row false g false 1 (ix q.2)]⟩)
    (fun q => q.1 ≤ n ∧ q.2.length = xs.length ∧ rv n (n - q.1) q.1 q.2 = rv n n 0 xs) (fun q hq => ?_) (0, xs) ⟨Nat.zero_le _, rfl, rfl⟩ _ (Fgt.mk' 1 (by simp) (by simp [keepB, Am.get, AV.lt, ltL]) rfl ⟨by simp only [Blk.lt, ltL_ix], trivial⟩)
  obtain ⟨i, ys⟩ := q
  obtain ⟨hi, hl, hr⟩ := hq
  simp only at hi hl hr
  refine CW.seq ?_
  by_cases h : (i : Int) < (n : Int) - 1 - (i : Int)
  · obtain ⟨j, hj⟩ : ∃ j : Nat, (n : Int) - 1 - (i : Int) = (j : Int) := ⟨n - 1 - i, by omega⟩
    have hjn : j = n - 1 - i := by omega
    have hij : i < j := by omega
    have hi1 : i < ys.length := by omega
    have hj1 : j < ys.length := by omega
    rw [hj] at h ⊢
    refine CW.rI fun K hK => ?_
    simp (maxSteps := 4000000) only [amC, amR, setO, Am.set, dr3, dr4, AV.elem, AV.cells, AV.one, loadAV, faddrAV, binAV, storeAV, AV.putCells, AV.ref, if_true, if_false, Nat.reduceEqDiff, Nat.reduceAdd, Nat.reduceLT, Nat.reduceLeDiff, reduceCtorEq, ↓reduceIte, pickAV, lenAV, intAV, slcA, slcAV, iaddrAV, extAV, fldAV, eqCell, contAV, appendAV, maxI, minI, Option.some.injEq, catT, h]
    refine hK _ _ nofun ?_
    clear hK K
    refine CW.condT rfl (CW.skip ?_)
    show CW _ _ _ _ _ _
    refine CW.seq ?_
    refine CW.block ?_
    have a1 : (i : Int) < ((n : Nat) : Int) := by omega
    have a2 : (j : Int) < ((n : Nat) : Int) := by omega
    refine CW.rE fun K hK => ?_
    simp (maxSteps := 4000000) only [amC, amR, setO, Am.set, dr3, dr4, AV.elem, AV.cells, AV.one, loadAV, faddrAV, binAV, storeAV, AV.putCells, AV.ref, if_true, if_false, Nat.reduceEqDiff, Nat.reduceAdd, Nat.reduceLT, Nat.reduceLeDiff, reduceCtorEq, ↓reduceIte, pickAV, lenAV, intAV, slcA, slcAV, iaddrAV, extAV, fldAV, eqCell, contAV, appendAV, maxI, minI, Option.some.injEq, catT, a1, a2, Int.natCast_nonneg, Int.toNat_natCast, ix_get ys hi1, ix_get ys hj1, AV.cells, AV.elem, AV.one, List.all_cons, List.all_nil, ix_set, ix_get (ys.set i (ys.getD j 0)) (show j < (ys.set i (ys.getD j 0)).length by simp; omega)]
    refine hK _ _ (fun _ => rfl) ?_
    clear hK K
    have w2 : IntKind.i64.wrap ((j : Int) - 1) = (n : Int) - 1 - ((i + 1 : Nat) : Int) := by rw [wr _ (by omega) (by omega)]; omega
    refine CW.rE fun K hK => ?_
    simp (maxSteps := 4000000) only [amC, amR, setO, Am.set, dr3, dr4, AV.elem, AV.cells, AV.one, loadAV, faddrAV, binAV, storeAV, AV.putCells, AV.ref, if_true, if_false, Nat.reduceEqDiff, Nat.reduceAdd, Nat.reduceLT, Nat.reduceLeDiff, reduceCtorEq, ↓reduceIte, pickAV, lenAV, intAV, slcA, slcAV, iaddrAV, extAV, fldAV, eqCell, contAV, appendAV, maxI, minI, Option.some.injEq, catT, wrap_nat i (by omega), w2]
    refine hK _ _ nofun ?_
    clear hK K
    refine ⟨(i + 1, (ys.set i (ys.getD j 0)).set j (ys.getD i 0)), by simp only; omega, ⟨by simp only; omega, by simp [hl], ?_⟩, Fgt.mk' 1 (by simp) (by simp [keepB, Am.get, AV.lt, ltL]) rfl ⟨by simp only [Blk.lt, ltL_ix], trivial⟩⟩
    rw [← hr]
    have e : n - i = (n - (i + 1)) + 1 := by omega
    rw [e]
    simp only [rv]
    rw [if_pos (by omega), hjn]
  · refine CW.rI fun K hK => ?_
    simp (maxSteps := 4000000) only [amC, amR, setO, Am.set, dr3, dr4, AV.elem, AV.cells, AV.one, loadAV, faddrAV, binAV, storeAV, AV.putCells, AV.ref, if_true, if_false, Nat.reduceEqDiff, Nat.reduceAdd, Nat.reduceLT, Nat.reduceLeDiff, reduceCtorEq, ↓reduceIte, pickAV, lenAV, intAV, slcA, slcAV, iaddrAV, extAV, fldAV, eqCell, contAV, appendAV, maxI, minI, Option.some.injEq, catT, h]
    refine hK _ _ nofun ?_
    clear hK K
    refine CW.condF rfl (CW.exit ?_)
    have hys : ys = rv n n 0 xs := by
      rw [← hr]
      cases hf : n - i with
      | zero => rfl
      | succ f =>
        simp only [rv]
        rw [if_neg (by omega)]
    subst hys
    exact finK_keep (.inl rfl) (xs := []) rfl rfl rfl (by simp) rfl (fun b hb => by rw [List.mem_singleton.1 hb]; simp only [Blk.allR, allRL_ix])
end Go.Hull
end
