/- The vertices in order, and Hull: walks.
   Conditions: a few points in range, at least one. -/
import Derived.Test.YtkbpkbjfphdgeaaHW8
import Derived.Test.YtkbpkbjfphdgeaaHW9
import Derived.Test.YtkbpkbjfphdgeaaHW10
set_option linter.unusedSimpArgs false
set_option linter.unusedVariables false
set_option maxHeartbeats 2000000
namespace Go.Hull
open Go Go.Am Go.Proofs

theorem optL_self {f : AV → Option (AV × List Nat)} : ∀ (l : List AV), (∀ x ∈ l, f x = some (x, [])) → optL f l = some (l.map fun x => (x, [])) := by
  intro l
  induction l with
  | nil => intro _; rfl
  | cons x l ih => intro h; simp only [optL, h x (by simp), ih (fun y hy => h y (by simp [hy])), List.map_cons]
theorem catT_nil : ∀ (l : List AV), catT (l.map fun x => (x, ([] : List Nat))) = [] := by
  intro l
  induction l with
  | nil => rfl
  | cons x l ih => simp only [List.map_cons, catT, ih, List.append_nil]

theorem viewG_ix {hl : List Blk} {b g i k : Nat} {nil frz : Bool} {xs : List Nat} (hb : hget hl b = .row nil g frz 1 (ix xs)) (h : i + k ≤ xs.length) : viewG hl 6 (.sl b g i k) = some (.sv false 1 (ix ((xs.drop i).take k)), [b]) := by
  have he : ((ix xs).drop i).take k = ix ((xs.drop i).take k) := by rw [ix_drop, ix_take]
  have h1 : optL (viewG hl 5) (ix ((xs.drop i).take k)) = some ((ix ((xs.drop i).take k)).map fun x => (x, [])) := optL_self _ fun x hx => by
    obtain ⟨n, -, rfl⟩ := List.mem_map.1 hx
    exact viewG_flat rfl 4
  have h2 : (((ix ((xs.drop i).take k)).map fun x => (x, ([] : List Nat))).all fun y => Nat.beq y.1.cells.length 1) = true := by
    rw [List.all_eq_true]
    intro y hy
    obtain ⟨x, hx, rfl⟩ := List.mem_map.1 hy
    obtain ⟨n, -, rfl⟩ := List.mem_map.1 hx
    rfl
  have hc : True ∧ i + k ≤ (ix xs).length := ⟨trivial, by rw [ix_length]; exact h⟩
  unfold viewG
  simp only [flatN, AV.lt, Nat.not_lt_zero, decide_false, Bool.false_eq_true, if_false, hb]
  rw [if_pos hc]
  simp only [he, h1, h2, if_true, List.map_map, Function.comp_def, List.map_id', catT_nil]

theorem viewG_ptr {hl : List Blk} {b g sz : Nat} {nil frz : Bool} {y : AV} (hb : hget hl b = .row nil g frz sz [y]) (hy : flatN true 5 y = true) (hone : y.cells = [y]) : viewG hl 6 (.ptr b g 0 0) = some (.rp true [y], [b]) := by
  have h1 : viewG hl 5 y = some (y, []) := by simp only [viewG, hy]
  unfold viewG
  simp only [flatN, AV.lt, Nat.not_lt_zero, decide_false, Bool.false_eq_true, if_false, hb, if_true, List.getElem?_cons_zero, hone, List.drop_zero, optL, h1, List.map_cons, List.map_nil, catT, List.append_nil]

theorem viewArgs2 {hl : List Blk} {x y x' y' : AV} {T T' : List Nat} (h1 : viewG hl 6 x = some (x', T)) (h2 : viewG hl 6 y = some (y', T')) : viewArgs hl [x, y] = some ([x', y'], T ++ T') := by
  simp only [viewArgs, h1, h2, List.append_nil]

theorem flat_ptr (l : List Pt) : flatN true 5 (pts l) = true := flat_pts l 2

/-- The numbers of the different points, in order, with zeros behind. -/
def compI (l : List Pt) : List Nat × Nat := compact (sameB l) (orderI l)
def distI (l : List Pt) : List Nat := (compI l).1.take (compI l).2
def aroundI (l : List Pt) : List Nat :=
  if (compI l).2 < 3 then distI l
  else ((chainS l (distI l)).reverse.take ((chainS l (distI l)).length - 1)) ++ ((chainS l (distI l).reverse).reverse.take ((chainS l (distI l).reverse).length - 1))

theorem outer_mem (lt : Nat → Nat → Bool) {n : Nat} : ∀ (k i : Nat) (xs : List Nat), i + k ≤ xs.length → (∀ x ∈ xs, x < n) → ∀ x ∈ outer lt k i xs, x < n := by
  intro k
  induction k with
  | zero => intro i xs _ h; exact h
  | succ k ih =>
    intro i xs hi h
    simp only [outer]
    exact ih (i + 1) _ (by rw [inner_length]; omega) (inner_mem lt i xs (by omega) h)
theorem orderI_mem (l : List Pt) : ∀ x ∈ orderI l, x < l.length := by
  unfold orderI insort
  by_cases h : l.length = 0
  · rw [h]; intro x hx; simp [outer] at hx
  · exact outer_mem _ _ _ _ (by simp; omega) (fun x hx => List.mem_range.1 hx)
theorem orderI_length (l : List Pt) : (orderI l).length = l.length := by unfold orderI; rw [insort_length, List.length_range]

theorem compIn_spec (eq : Nat → Nat → Bool) {n : Nat} (k0 : Nat) : ∀ (f k2 k : Nat) (xs : List Nat), k < k0 + k2 → k0 + k2 + f ≤ xs.length → (∀ x ∈ xs, x < n) → (compIn eq k0 f k2 k xs).1.length = xs.length ∧ (∀ x ∈ (compIn eq k0 f k2 k xs).1, x < n) ∧ (compIn eq k0 f k2 k xs).2 ≤ k + f ∧ k ≤ (compIn eq k0 f k2 k xs).2 := by
  intro f
  induction f with
  | zero => intro k2 k xs _ _ h; exact ⟨rfl, h, Nat.le_refl _, Nat.le_refl _⟩
  | succ f ih =>
    intro k2 k xs hk hf h
    simp only [compIn]
    split
    · obtain ⟨a1, a2, a3, a4⟩ := ih (k2 + 1) k xs (by omega) (by omega) h
      exact ⟨a1, a2, by omega, a4⟩
    · obtain ⟨a1, a2, a3, a4⟩ := ih (k2 + 1) (k + 1) (xs.set k (xs.getD (k0 + k2) 0)) (by omega) (by simp; omega) (fun x hx => by
        rcases List.mem_or_eq_of_mem_set hx with h1 | h1
        · exact h x h1
        · rw [h1]; exact getD_lt h (by omega))
      exact ⟨by simpa using a1, a2, by omega, by omega⟩

theorem compOut_spec (eq : Nat → Nat → Bool) {n : Nat} (hn : 0 < n) : ∀ (f k : Nat) (xs : List Nat), 1 ≤ k → k + f ≤ xs.length → (∀ x ∈ xs, x < n) → (compOut eq f k xs).1.length = xs.length ∧ (∀ x ∈ (compOut eq f k xs).1, x < n) ∧ (compOut eq f k xs).2 ≤ xs.length ∧ (1 ≤ xs.length → 1 ≤ (compOut eq f k xs).2) := by
  intro f
  induction f with
  | zero => intro k xs _ _ h; exact ⟨rfl, h, Nat.le_refl _, id⟩
  | succ f ih =>
    intro k xs hk hf h
    simp only [compOut]
    split
    · obtain ⟨a1, a2, a3, a4⟩ := compIn_spec eq k (xs.length - k - 1) 1 k xs (by omega) (by omega) h
      refine ⟨?_, fun x hx => ?_, by simp only [zeroed]; omega, fun _ => by simp only [zeroed]; omega⟩
      · simp only [zeroed, List.length_append, List.length_take, List.length_replicate, a1]; omega
      · simp only [zeroed] at hx
        rcases List.mem_append.1 hx with h1 | h1
        · exact a2 x (List.mem_of_mem_take h1)
        · rw [List.eq_of_mem_replicate h1]; exact hn
    · exact ih (k + 1) xs (by omega) (by omega) h

theorem compI_spec {l : List Pt} (hl : 0 < l.length) : (compI l).1.length = l.length ∧ (∀ x ∈ (compI l).1, x < l.length) ∧ (compI l).2 ≤ l.length ∧ 1 ≤ (compI l).2 := by
  unfold compI compact
  have h1 := orderI_length l
  split
  · exact ⟨h1, orderI_mem l, by simp only; omega, by simp only; omega⟩
  · obtain ⟨a1, a2, a3, a4⟩ := compOut_spec (sameB l) hl ((orderI l).length - 1) 1 (orderI l) (Nat.le_refl _) (by omega) (orderI_mem l)
    exact ⟨by rw [a1, h1], a2, by omega, a4 (by omega)⟩

theorem rv_length (n : Nat) : ∀ (f i : Nat) (xs : List Nat), (rv n f i xs).length = xs.length := by
  intro f
  induction f with
  | zero => intro i xs; rfl
  | succ f ih => intro i xs; simp only [rv]; split <;> simp [ih]
theorem rv_mem {n m : Nat} : ∀ (f i : Nat) (xs : List Nat), n ≤ xs.length → (∀ x ∈ xs, x < m) → ∀ x ∈ rv n f i xs, x < m := by
  intro f
  induction f with
  | zero => intro i xs _ h; exact h
  | succ f ih =>
    intro i xs hn h
    simp only [rv]
    split
    · rename_i hi
      refine ih (i + 1) _ (by simp; omega) fun x hx => ?_
      rcases List.mem_or_eq_of_mem_set hx with h1 | h1
      · rcases List.mem_or_eq_of_mem_set h1 with h2 | h2
        · exact h x h2
        · rw [h2]; exact getD_lt h (by omega)
      · rw [h1]; exact getD_lt h (by omega)
    · exact h

/-- The vertices, as they are found. -/
def revI (l : List Pt) : List Nat := (rv (compI l).2 (compI l).2 0 (compI l).1).take (compI l).2
def hullI (l : List Pt) : List Nat :=
  if (compI l).2 < 3 then distI l
  else ((chainS l (distI l)).reverse.take ((chainS l (distI l)).length - 1)) ++ ((chainS l (revI l)).reverse.take ((chainS l (revI l)).length - 1))

theorem distI_length {l : List Pt} (hl : 0 < l.length) : (distI l).length = (compI l).2 := by
  obtain ⟨a1, a2, a3, a4⟩ := compI_spec hl
  unfold distI; rw [List.length_take, a1]; omega
theorem revI_length {l : List Pt} (hl : 0 < l.length) : (revI l).length = (compI l).2 := by
  obtain ⟨a1, a2, a3, a4⟩ := compI_spec hl
  unfold revI; rw [List.length_take, rv_length, a1]; omega
theorem chain_le {l : List Pt} : ∀ (ord st : List Nat), (ord.foldl (fun st i => i :: pop l i st) st).length ≤ st.length + ord.length := by
  intro ord
  induction ord with
  | nil => intro st; simp
  | cons o os ih =>
    intro st
    simp only [List.foldl_cons]
    have h1 := ih (o :: pop l o st)
    have h2 := pop_length (l := l) (i := o) st
    simp only [List.length_cons] at h1 ⊢
    omega

theorem all_ix (xs : List Nat) : (ix xs).all AV.elem = true := by
  rw [List.all_eq_true]
  intro x hx
  obtain ⟨n, -, rfl⟩ := List.mem_map.1 hx
  rfl

theorem c51 (l : List Pt) (hl : 0 < l.length) (hn : l.length < 20) (hok : l.all okP = true) :
    ∃ (zs : List Nat), zs.take (hullI l).length = hullI l ∧ (hullI l).length ≤ zs.length ∧ CallsF Try.prog 51 [pts l] [] (.sl 0 0 0 (hullI l).length) [.row false 0 false 1 (ix zs)] := by
  obtain ⟨a1, a2, a3, a4⟩ := compI_spec hl
  have hchk : chk l = 0 := by unfold chk; rw [if_neg (by omega), if_pos hok]
  have hd := distI_length hl
  have hr := revI_length hl
  have hdm : ∀ x ∈ distI l, x < l.length := fun x hx => a2 x (List.mem_of_mem_take hx)
  have hrm : ∀ x ∈ revI l, x < l.length := fun x hx => rv_mem _ _ _ (by omega) a2 x (List.mem_of_mem_take hx)
  have hc84 := c84 l 0 (orderI l) (orderI_mem l) (by rw [orderI_length]; omega)
  rw [orderI_length] at hc84
  have key : ∀ (zs : List Nat) (b g : Nat), zs.take (hullI l).length = hullI l → (hullI l).length ≤ zs.length → (CWx Try.prog 0 true cf51.code (argsAl 0 [pts l]) [] (finK cf51.rvs 0 (.sl 0 0 0 (hullI l).length) [.row false 0 false 1 (ix zs)])) →
      ∃ (zs : List Nat), zs.take (hullI l).length = hullI l ∧ (hullI l).length ≤ zs.length ∧ CallsF Try.prog 51 [pts l] [] (.sl 0 0 0 (hullI l).length) [.row false 0 false 1 (ix zs)] := fun zs b g h1 h2 h3 => ⟨zs, h1, h2, callsF_cwx hm hf51 (by simp [cf51]) h3⟩
  by_cases h3 : ((compI l).2 : Int) < 3
  · have hh : hullI l = distI l := by unfold hullI; rw [if_pos (by omega)]
    refine key (compI l).1 0 0 (by rw [hh, hd]; rfl) (by rw [hh, hd, a1]; exact a3) ?_
    rw [hh, hd]
    simp only [cf51, argsAl]
    refine CWx.r fun K hK => ?_
    simp (maxSteps := 4000000) only [amC, amX, evsA, evpA, elemsA, elemsP, sizedA, optA, refA, consO, Am.get, AV.elem, AV.cells, AV.one, hsetL, hset, hget, loadAV, rowAt?, loadCells', faddrAV, binAV, fillA, storeAV, AV.putCells, AV.ref, List.foldl, List.all, List.map, List.set, List.take, List.drop, Option.getD, Option.map, if_true, if_false, Nat.reduceEqDiff, Nat.reduceAdd, Nat.reduceLT, Nat.reduceLeDiff, reduceCtorEq, ↓reduceIte, pickAV, lenAV, intAV, slcA, slcAV, iaddrAV, extAV, fldAV, eqCells, eqCell, contAV, appendAV, foldAV, maxI, minI, Option.some.injEq, catT, AV.elem, AV.cells, AV.one, pts, List.all_cons, List.all_nil]
    refine hK _ _ _ nofun ?_
    clear hK K
    refine CWx.r fun K hK => ?_
    simp (maxSteps := 4000000) only [amC, amX, evsA, evpA, elemsA, elemsP, sizedA, optA, refA, consO, Am.get, AV.elem, AV.cells, AV.one, hsetL, hset, hget, loadAV, rowAt?, loadCells', faddrAV, binAV, fillA, storeAV, AV.putCells, AV.ref, List.foldl, List.all, List.map, List.set, List.take, List.drop, Option.getD, Option.map, if_true, if_false, Nat.reduceEqDiff, Nat.reduceAdd, Nat.reduceLT, Nat.reduceLeDiff, reduceCtorEq, ↓reduceIte, pickAV, lenAV, intAV, slcA, slcAV, iaddrAV, extAV, fldAV, eqCells, eqCell, contAV, appendAV, foldAV, maxI, minI, Option.some.injEq, catT, AV.cells]
    refine RCx.viewR (fid := 83) (caps := []) rfl rfl (viewArgs_flat1 (flat_pts l 2)) (c83 l hn hchk) (by simp [AV.clean, cleanL, Blk.clean, cleanL_ix]) ?_
    simp (maxSteps := 4000000) only [amC, amX, evsA, evpA, elemsA, elemsP, sizedA, optA, refA, consO, Am.get, AV.elem, AV.cells, AV.one, hsetL, hset, hget, loadAV, rowAt?, loadCells', faddrAV, binAV, fillA, storeAV, AV.putCells, AV.ref, List.foldl, List.all, List.map, List.set, List.take, List.drop, Option.getD, Option.map, if_true, if_false, Nat.reduceEqDiff, Nat.reduceAdd, Nat.reduceLT, Nat.reduceLeDiff, reduceCtorEq, ↓reduceIte, pickAV, lenAV, intAV, slcA, slcAV, iaddrAV, extAV, fldAV, eqCells, eqCell, contAV, appendAV, foldAV, maxI, minI, Option.some.injEq, catT, AV.ren, renL, Blk.ren, renL_id (ix (orderI l)) (ltL_ix _ _)]
    refine hK _ _ _ nofun ?_
    clear hK K
    refine CWx.seq ?_
    refine CWx.r fun K hK => ?_
    simp (maxSteps := 4000000) only [amC, amX, evsA, evpA, elemsA, elemsP, sizedA, optA, refA, consO, Am.get, AV.elem, AV.cells, AV.one, hsetL, hset, hget, loadAV, rowAt?, loadCells', faddrAV, binAV, fillA, storeAV, AV.putCells, AV.ref, List.foldl, List.all, List.map, List.set, List.take, List.drop, Option.getD, Option.map, if_true, if_false, Nat.reduceEqDiff, Nat.reduceAdd, Nat.reduceLT, Nat.reduceLeDiff, reduceCtorEq, ↓reduceIte, pickAV, lenAV, intAV, slcA, slcAV, iaddrAV, extAV, fldAV, eqCells, eqCell, contAV, appendAV, foldAV, maxI, minI, Option.some.injEq, catT, show ((0 : Int) != 0) = false from rfl]
    refine hK _ _ _ nofun ?_
    clear hK K
    refine CWx.condF rfl (CWx.skip (CWx.go ?_))
    refine CWx.r fun K hK => ?_
    simp (maxSteps := 4000000) only [amC, amX, evsA, evpA, elemsA, elemsP, sizedA, optA, refA, consO, Am.get, AV.elem, AV.cells, AV.one, hsetL, hset, hget, loadAV, rowAt?, loadCells', faddrAV, binAV, fillA, storeAV, AV.putCells, AV.ref, List.foldl, List.all, List.map, List.set, List.take, List.drop, Option.getD, Option.map, if_true, if_false, Nat.reduceEqDiff, Nat.reduceAdd, Nat.reduceLT, Nat.reduceLeDiff, reduceCtorEq, ↓reduceIte, pickAV, lenAV, intAV, slcA, slcAV, iaddrAV, extAV, fldAV, eqCells, eqCell, contAV, appendAV, foldAV, maxI, minI, Option.some.injEq, catT]
    refine RCx.oneR (fid := 84) (caps := []) rfl rfl (b := 2) (X := [.sl 2 0 0 l.length, .clo 85 [.ptr 0 0 0 0]]) (args := [.sl 0 0 0 l.length, .clo 85 [.rp true [pts l]]]) (.cons (.row 0 0 l.length) (.cons (.view (viewG_clo rfl (flat_pts l 2) rfl) rfl) .nil)) hc84 (by simp) rfl (by simp only [Blk.lt, ltL_ix]) rfl (by simp only [Blk.lt, ltL_ix]) (by simp only [Blk.clean, cleanL_ix]) (r' := .sl 2 0 0 (compI l).2) (by simp [AV.ren, sigma, compI]) ?_
    simp (maxSteps := 4000000) only [amC, amX, evsA, evpA, elemsA, elemsP, sizedA, optA, refA, consO, Am.get, AV.elem, AV.cells, AV.one, hsetL, hset, hget, loadAV, rowAt?, loadCells', faddrAV, binAV, fillA, storeAV, AV.putCells, AV.ref, List.foldl, List.all, List.map, List.set, List.take, List.drop, Option.getD, Option.map, if_true, if_false, Nat.reduceEqDiff, Nat.reduceAdd, Nat.reduceLT, Nat.reduceLeDiff, reduceCtorEq, ↓reduceIte, pickAV, lenAV, intAV, slcA, slcAV, iaddrAV, extAV, fldAV, eqCells, eqCell, contAV, appendAV, foldAV, maxI, minI, Option.some.injEq, catT]
    refine hK _ _ _ nofun ?_
    clear hK K
    refine CWx.seq ?_
    refine CWx.r fun K hK => ?_
    simp (maxSteps := 4000000) only [amC, amX, evsA, evpA, elemsA, elemsP, sizedA, optA, refA, consO, Am.get, AV.elem, AV.cells, AV.one, hsetL, hset, hget, loadAV, rowAt?, loadCells', faddrAV, binAV, fillA, storeAV, AV.putCells, AV.ref, List.foldl, List.all, List.map, List.set, List.take, List.drop, Option.getD, Option.map, if_true, if_false, Nat.reduceEqDiff, Nat.reduceAdd, Nat.reduceLT, Nat.reduceLeDiff, reduceCtorEq, ↓reduceIte, pickAV, lenAV, intAV, slcA, slcAV, iaddrAV, extAV, fldAV, eqCells, eqCell, contAV, appendAV, foldAV, maxI, minI, Option.some.injEq, catT, h3]
    refine hK _ _ _ nofun ?_
    clear hK K
    refine CWx.condT rfl ?_
    refine CWx.r fun K hK => ?_
    simp (maxSteps := 4000000) only [amC, amX, evsA, evpA, elemsA, elemsP, sizedA, optA, refA, consO, Am.get, AV.elem, AV.cells, AV.one, hsetL, hset, hget, loadAV, rowAt?, loadCells', faddrAV, binAV, fillA, storeAV, AV.putCells, AV.ref, List.foldl, List.all, List.map, List.set, List.take, List.drop, Option.getD, Option.map, if_true, if_false, Nat.reduceEqDiff, Nat.reduceAdd, Nat.reduceLT, Nat.reduceLeDiff, reduceCtorEq, ↓reduceIte, pickAV, lenAV, intAV, slcA, slcAV, iaddrAV, extAV, fldAV, eqCells, eqCell, contAV, appendAV, foldAV, maxI, minI, Option.some.injEq, catT]
    refine hK _ _ _ nofun ?_
    clear hK K
    refine CWx.ret fun al hal => finK_ext hal (finK_new (.inr rfl) (xs := [.sl 2 0 0 (compI l).2]) (b := 2) (g := 0) (nil := false) (ys := ix (compI l).1) (by simp [resRV, Am.get]) rfl (allRL_ix _ _ _) ?_ ?_)
    · simp [tupAV, AV.allR, sigP]
    · simp [tupAV, AV.mapR, sigF]
  · have hm3 : 3 ≤ (compI l).2 := by omega
    obtain ⟨C, hC⟩ : ∃ C, C = (chainS l (distI l)).reverse := ⟨_, rfl⟩
    obtain ⟨R, hR⟩ : ∃ R, R = (chainS l (revI l)).reverse := ⟨_, rfl⟩
    obtain ⟨n1, hn1⟩ : ∃ n1, n1 = (chainS l (distI l)).length - 1 := ⟨_, rfl⟩
    obtain ⟨n2, hn2⟩ : ∃ n2, n2 = (chainS l (revI l)).length - 1 := ⟨_, rfl⟩
    have hCl : C.length = (chainS l (distI l)).length := by rw [hC]; simp
    have hRl : R.length = (chainS l (revI l)).length := by rw [hR]; simp
    have hne1 : distI l ≠ [] := by intro h; rw [h] at hd; simp at hd; omega
    have hne2 : revI l ≠ [] := by intro h; rw [h] at hr; simp at hr; omega
    have hp1 := chain_pos (l := l) (distI l) [] hne1
    have hp2 := chain_pos (l := l) (revI l) [] hne2
    have hb1 : (chainS l (distI l)).length ≤ (compI l).2 := by have := chain_le (l := l) (distI l) []; rw [hd] at this; simpa [chainS] using this
    have hb2 : (chainS l (revI l)).length ≤ (compI l).2 := by have := chain_le (l := l) (revI l) []; rw [hr] at this; simpa [chainS] using this
    have k1 := c86 l hok (distI l) hdm hne1 (by omega)
    have k2 := c86 l hok (revI l) hrm hne2 (by omega)
    rw [← hC, ← hn1] at k1
    rw [← hR, ← hn2] at k2
    have hn1C : n1 ≤ C.length := by omega
    have hn2R : n2 ≤ R.length := by omega
    have hh : hullI l = C.take n1 ++ R.take n2 := by unfold hullI; rw [if_neg (by omega), ← hC, ← hR, ← hn1, ← hn2]
    have hl1 : (C.take n1).length = n1 := by rw [List.length_take]; omega
    have hl2 : (R.take n2).length = n2 := by rw [List.length_take]; omega
    have hlen : (hullI l).length = n1 + n2 := by rw [hh, List.length_append, hl1, hl2]
    refine key (hullI l) 0 0 (List.take_of_length_le (Nat.le_refl _)) (Nat.le_refl _) ?_
    simp only [cf51, argsAl]
    refine CWx.r fun K hK => ?_
    simp (maxSteps := 4000000) only [amC, amX, evsA, evpA, elemsA, elemsP, sizedA, optA, refA, consO, Am.get, AV.elem, AV.cells, AV.one, hsetL, hset, hget, loadAV, rowAt?, loadCells', faddrAV, binAV, fillA, storeAV, AV.putCells, AV.ref, List.foldl, List.all, List.map, List.set, List.take, List.drop, Option.getD, Option.map, if_true, if_false, Nat.reduceEqDiff, Nat.reduceAdd, Nat.reduceLT, Nat.reduceLeDiff, reduceCtorEq, ↓reduceIte, pickAV, lenAV, intAV, slcA, slcAV, iaddrAV, extAV, fldAV, eqCells, eqCell, contAV, appendAV, foldAV, maxI, minI, Option.some.injEq, catT, AV.elem, AV.cells, AV.one, pts, List.all_cons, List.all_nil]
    refine hK _ _ _ nofun ?_
    clear hK K
    refine CWx.r fun K hK => ?_
    simp (maxSteps := 4000000) only [amC, amX, evsA, evpA, elemsA, elemsP, sizedA, optA, refA, consO, Am.get, AV.elem, AV.cells, AV.one, hsetL, hset, hget, loadAV, rowAt?, loadCells', faddrAV, binAV, fillA, storeAV, AV.putCells, AV.ref, List.foldl, List.all, List.map, List.set, List.take, List.drop, Option.getD, Option.map, if_true, if_false, Nat.reduceEqDiff, Nat.reduceAdd, Nat.reduceLT, Nat.reduceLeDiff, reduceCtorEq, ↓reduceIte, pickAV, lenAV, intAV, slcA, slcAV, iaddrAV, extAV, fldAV, eqCells, eqCell, contAV, appendAV, foldAV, maxI, minI, Option.some.injEq, catT, AV.cells]
    refine RCx.viewR (fid := 83) (caps := []) rfl rfl (viewArgs_flat1 (flat_pts l 2)) (c83 l hn hchk) (by simp [AV.clean, cleanL, Blk.clean, cleanL_ix]) ?_
    simp (maxSteps := 4000000) only [amC, amX, evsA, evpA, elemsA, elemsP, sizedA, optA, refA, consO, Am.get, AV.elem, AV.cells, AV.one, hsetL, hset, hget, loadAV, rowAt?, loadCells', faddrAV, binAV, fillA, storeAV, AV.putCells, AV.ref, List.foldl, List.all, List.map, List.set, List.take, List.drop, Option.getD, Option.map, if_true, if_false, Nat.reduceEqDiff, Nat.reduceAdd, Nat.reduceLT, Nat.reduceLeDiff, reduceCtorEq, ↓reduceIte, pickAV, lenAV, intAV, slcA, slcAV, iaddrAV, extAV, fldAV, eqCells, eqCell, contAV, appendAV, foldAV, maxI, minI, Option.some.injEq, catT, AV.ren, renL, Blk.ren, renL_id (ix (orderI l)) (ltL_ix _ _)]
    refine hK _ _ _ nofun ?_
    clear hK K
    refine CWx.seq ?_
    refine CWx.r fun K hK => ?_
    simp (maxSteps := 4000000) only [amC, amX, evsA, evpA, elemsA, elemsP, sizedA, optA, refA, consO, Am.get, AV.elem, AV.cells, AV.one, hsetL, hset, hget, loadAV, rowAt?, loadCells', faddrAV, binAV, fillA, storeAV, AV.putCells, AV.ref, List.foldl, List.all, List.map, List.set, List.take, List.drop, Option.getD, Option.map, if_true, if_false, Nat.reduceEqDiff, Nat.reduceAdd, Nat.reduceLT, Nat.reduceLeDiff, reduceCtorEq, ↓reduceIte, pickAV, lenAV, intAV, slcA, slcAV, iaddrAV, extAV, fldAV, eqCells, eqCell, contAV, appendAV, foldAV, maxI, minI, Option.some.injEq, catT, show ((0 : Int) != 0) = false from rfl]
    refine hK _ _ _ nofun ?_
    clear hK K
    refine CWx.condF rfl (CWx.skip (CWx.go ?_))
    refine CWx.r fun K hK => ?_
    simp (maxSteps := 4000000) only [amC, amX, evsA, evpA, elemsA, elemsP, sizedA, optA, refA, consO, Am.get, AV.elem, AV.cells, AV.one, hsetL, hset, hget, loadAV, rowAt?, loadCells', faddrAV, binAV, fillA, storeAV, AV.putCells, AV.ref, List.foldl, List.all, List.map, List.set, List.take, List.drop, Option.getD, Option.map, if_true, if_false, Nat.reduceEqDiff, Nat.reduceAdd, Nat.reduceLT, Nat.reduceLeDiff, reduceCtorEq, ↓reduceIte, pickAV, lenAV, intAV, slcA, slcAV, iaddrAV, extAV, fldAV, eqCells, eqCell, contAV, appendAV, foldAV, maxI, minI, Option.some.injEq, catT]
    refine RCx.oneR (fid := 84) (caps := []) rfl rfl (b := 2) (X := [.sl 2 0 0 l.length, .clo 85 [.ptr 0 0 0 0]]) (args := [.sl 0 0 0 l.length, .clo 85 [.rp true [pts l]]]) (.cons (.row 0 0 l.length) (.cons (.view (viewG_clo rfl (flat_pts l 2) rfl) rfl) .nil)) hc84 (by simp) rfl (by simp only [Blk.lt, ltL_ix]) rfl (by simp only [Blk.lt, ltL_ix]) (by simp only [Blk.clean, cleanL_ix]) (r' := .sl 2 0 0 (compI l).2) (by simp [AV.ren, sigma, compI]) ?_
    simp (maxSteps := 4000000) only [amC, amX, evsA, evpA, elemsA, elemsP, sizedA, optA, refA, consO, Am.get, AV.elem, AV.cells, AV.one, hsetL, hset, hget, loadAV, rowAt?, loadCells', faddrAV, binAV, fillA, storeAV, AV.putCells, AV.ref, List.foldl, List.all, List.map, List.set, List.take, List.drop, Option.getD, Option.map, if_true, if_false, Nat.reduceEqDiff, Nat.reduceAdd, Nat.reduceLT, Nat.reduceLeDiff, reduceCtorEq, ↓reduceIte, pickAV, lenAV, intAV, slcA, slcAV, iaddrAV, extAV, fldAV, eqCells, eqCell, contAV, appendAV, foldAV, maxI, minI, Option.some.injEq, catT]
    refine hK _ _ _ nofun ?_
    clear hK K
    refine CWx.seq ?_
    refine CWx.r fun K hK => ?_
    simp (maxSteps := 4000000) only [amC, amX, evsA, evpA, elemsA, elemsP, sizedA, optA, refA, consO, Am.get, AV.elem, AV.cells, AV.one, hsetL, hset, hget, loadAV, rowAt?, loadCells', faddrAV, binAV, fillA, storeAV, AV.putCells, AV.ref, List.foldl, List.all, List.map, List.set, List.take, List.drop, Option.getD, Option.map, if_true, if_false, Nat.reduceEqDiff, Nat.reduceAdd, Nat.reduceLT, Nat.reduceLeDiff, reduceCtorEq, ↓reduceIte, pickAV, lenAV, intAV, slcA, slcAV, iaddrAV, extAV, fldAV, eqCells, eqCell, contAV, appendAV, foldAV, maxI, minI, Option.some.injEq, catT, h3]
    refine hK _ _ _ nofun ?_
    clear hK K
    refine CWx.condF rfl (CWx.skip (CWx.go ?_))
    refine CWx.r fun K hK => ?_
    simp (maxSteps := 4000000) only [amC, amX, evsA, evpA, elemsA, elemsP, sizedA, optA, refA, consO, Am.get, AV.elem, AV.cells, AV.one, hsetL, hset, hget, loadAV, rowAt?, loadCells', faddrAV, binAV, fillA, storeAV, AV.putCells, AV.ref, List.foldl, List.all, List.map, List.set, List.take, List.drop, Option.getD, Option.map, if_true, if_false, Nat.reduceEqDiff, Nat.reduceAdd, Nat.reduceLT, Nat.reduceLeDiff, reduceCtorEq, ↓reduceIte, pickAV, lenAV, intAV, slcA, slcAV, iaddrAV, extAV, fldAV, eqCells, eqCell, contAV, appendAV, foldAV, maxI, minI, Option.some.injEq, catT]
    refine hK _ _ _ nofun ?_
    clear hK K
    refine CWx.r fun K hK => ?_
    simp (maxSteps := 4000000) only [amC, amX, evsA, evpA, elemsA, elemsP, sizedA, optA, refA, consO, Am.get, AV.elem, AV.cells, AV.one, hsetL, hset, hget, loadAV, rowAt?, loadCells', faddrAV, binAV, fillA, storeAV, AV.putCells, AV.ref, List.foldl, List.all, List.map, List.set, List.take, List.drop, Option.getD, Option.map, if_true, if_false, Nat.reduceEqDiff, Nat.reduceAdd, Nat.reduceLT, Nat.reduceLeDiff, reduceCtorEq, ↓reduceIte, pickAV, lenAV, intAV, slcA, slcAV, iaddrAV, extAV, fldAV, eqCells, eqCell, contAV, appendAV, foldAV, maxI, minI, Option.some.injEq, catT]
    refine RCx.viewR (fid := 86) (caps := [.ptr 0 0 0 0]) rfl rfl (viewArgs2 (viewG_ix (b := 2) (g := 0) (i := 0) (k := (compI l).2) (nil := false) (frz := false) (xs := (compI l).1) rfl (by omega)) (viewG_ptr (b := 0) (g := 0) (sz := 1) (nil := false) (frz := false) (y := pts l) rfl (flat_pts l 2) rfl)) k1 (by simp [AV.clean, Blk.clean, cleanL_ix]) ?_
    simp (maxSteps := 4000000) only [amC, amX, evsA, evpA, elemsA, elemsP, sizedA, optA, refA, consO, Am.get, AV.elem, AV.cells, AV.one, hsetL, hset, hget, loadAV, rowAt?, loadCells', faddrAV, binAV, fillA, storeAV, AV.putCells, AV.ref, List.foldl, List.all, List.map, List.set, List.take, List.drop, Option.getD, Option.map, if_true, if_false, Nat.reduceEqDiff, Nat.reduceAdd, Nat.reduceLT, Nat.reduceLeDiff, reduceCtorEq, ↓reduceIte, pickAV, lenAV, intAV, slcA, slcAV, iaddrAV, extAV, fldAV, eqCells, eqCell, contAV, appendAV, foldAV, maxI, minI, Option.some.injEq, catT, AV.ren, renL, Blk.ren, renL_id (ix C) (ltL_ix _ _)]
    refine hK _ _ _ nofun ?_
    clear hK K
    refine CWx.r fun K hK => ?_
    simp (maxSteps := 4000000) only [amC, amX, evsA, evpA, elemsA, elemsP, sizedA, optA, refA, consO, Am.get, AV.elem, AV.cells, AV.one, hsetL, hset, hget, loadAV, rowAt?, loadCells', faddrAV, binAV, fillA, storeAV, AV.putCells, AV.ref, List.foldl, List.all, List.map, List.set, List.take, List.drop, Option.getD, Option.map, if_true, if_false, Nat.reduceEqDiff, Nat.reduceAdd, Nat.reduceLT, Nat.reduceLeDiff, reduceCtorEq, ↓reduceIte, pickAV, lenAV, intAV, slcA, slcAV, iaddrAV, extAV, fldAV, eqCells, eqCell, contAV, appendAV, foldAV, maxI, minI, Option.some.injEq, catT]
    refine RCx.one (fid := 87) (caps := []) rfl rfl (b := 2) (X := [.sl 2 0 0 (compI l).2]) (args := [.sl 0 0 0 (compI l).2]) (.cons (.row 0 0 (compI l).2) .nil) (c87' 0 (compI l).2 (compI l).1 (by omega) (by omega)) (by simp) rfl (by simp only [Blk.lt, ltL_ix]) rfl (by simp only [Blk.lt, ltL_ix]) (by simp only [Blk.clean, cleanL_ix]) ?_
    simp (maxSteps := 4000000) only [amC, amX, evsA, evpA, elemsA, elemsP, sizedA, optA, refA, consO, Am.get, AV.elem, AV.cells, AV.one, hsetL, hset, hget, loadAV, rowAt?, loadCells', faddrAV, binAV, fillA, storeAV, AV.putCells, AV.ref, List.foldl, List.all, List.map, List.set, List.take, List.drop, Option.getD, Option.map, if_true, if_false, Nat.reduceEqDiff, Nat.reduceAdd, Nat.reduceLT, Nat.reduceLeDiff, reduceCtorEq, ↓reduceIte, pickAV, lenAV, intAV, slcA, slcAV, iaddrAV, extAV, fldAV, eqCells, eqCell, contAV, appendAV, foldAV, maxI, minI, Option.some.injEq, catT]
    refine hK _ _ _ nofun ?_
    clear hK K
    refine CWx.r fun K hK => ?_
    simp (maxSteps := 4000000) only [amC, amX, evsA, evpA, elemsA, elemsP, sizedA, optA, refA, consO, Am.get, AV.elem, AV.cells, AV.one, hsetL, hset, hget, loadAV, rowAt?, loadCells', faddrAV, binAV, fillA, storeAV, AV.putCells, AV.ref, List.foldl, List.all, List.map, List.set, List.take, List.drop, Option.getD, Option.map, if_true, if_false, Nat.reduceEqDiff, Nat.reduceAdd, Nat.reduceLT, Nat.reduceLeDiff, reduceCtorEq, ↓reduceIte, pickAV, lenAV, intAV, slcA, slcAV, iaddrAV, extAV, fldAV, eqCells, eqCell, contAV, appendAV, foldAV, maxI, minI, Option.some.injEq, catT]
    refine RCx.viewR (fid := 86) (caps := [.ptr 0 0 0 0]) rfl rfl (viewArgs2 (viewG_ix (b := 2) (g := 0) (i := 0) (k := (compI l).2) (nil := false) (frz := false) (xs := rv (compI l).2 (compI l).2 0 (compI l).1) rfl (by rw [rv_length]; omega)) (viewG_ptr (b := 0) (g := 0) (sz := 1) (nil := false) (frz := false) (y := pts l) rfl (flat_pts l 2) rfl)) k2 (by simp [AV.clean, Blk.clean, cleanL_ix]) ?_
    have hbd : (n1 + n2) * 8 ≤ appBound := by unfold appBound; omega
    simp (maxSteps := 4000000) only [amC, amX, evsA, evpA, elemsA, elemsP, sizedA, optA, refA, consO, Am.get, AV.elem, AV.cells, AV.one, hsetL, hset, hget, loadAV, rowAt?, loadCells', faddrAV, binAV, fillA, storeAV, AV.putCells, AV.ref, List.foldl, List.all, List.map, List.set, List.take, List.drop, Option.getD, Option.map, if_true, if_false, Nat.reduceEqDiff, Nat.reduceAdd, Nat.reduceLT, Nat.reduceLeDiff, reduceCtorEq, ↓reduceIte, pickAV, lenAV, intAV, slcA, slcAV, iaddrAV, extAV, fldAV, eqCells, eqCell, contAV, appendAV, foldAV, maxI, minI, Option.some.injEq, catT, AV.ren, renL, Blk.ren, renL_id (ix R) (ltL_ix _ _), ix_length, hn2R, ix_take, all_ix, hl2, hn1C, hbd, true_or, Bool.false_and]
    refine hK _ _ _ nofun ?_
    clear hK K
    refine CWx.ret fun al hal => finK_ext hal (finK_new (.inr rfl) (xs := [.sl 3 1 0 (n1 + n2)]) (b := 3) (g := 1) (nil := false) (ys := ix (hullI l)) (by simp [resRV, Am.get]) ?_ (allRL_ix _ _ _) ?_ ?_)
    · simp only [hget, List.getElem?_cons_succ, List.getElem?_cons_zero, Option.getD_some, hh, ix_append]
    · simp [tupAV, AV.allR, sigP]
    · simp [tupAV, AV.mapR, sigF, hlen]
end Go.Hull
