/- The vertices in order, and Hull: walks.
   Conditions: a few points in range, at least one. -/
import Derived.KernelRfl
import Derived.Test.YtkbpkbjfphdgeaaPart10
section
set_option linter.unusedSimpArgs false
set_option linter.unusedVariables false
set_option maxHeartbeats 2000000
namespace Go.Hull
open Go Go.Am Go.Proofs

theorem optL_self {f : AV → Option (AV × List Nat)} : ∀ (l : List AV), (∀ x ∈ l, f x = some (x, [])) → optL f l = some (l.map fun x => (x, [])) := by
  intro l
  induction l with
  | nil => intro _; rfl
  | cons x l ih => intro h; simp only [optL, h x (by simp), ih (fun y hy => h y (by simp [hy])), List.map_cons]
theorem catT_nil : ∀ (l : List AV), catT (l.map fun x => (x, ([] : List Nat))) = [] := by
  intro l
  induction l with
  | nil => rfl
  | cons x l ih => simp only [List.map_cons, catT, ih, List.append_nil]
theorem viewG_ix {hl : List Blk} {b g i k : Nat} {nil frz : Bool} {xs : List Nat} (hb : hget hl b = .row nil g frz 1 (ix xs)) (h : i + k ≤ xs.length) : viewG hl 6 (.sl b g i k) = some (.sv false 1 (ix ((xs.drop i).take k)), [b]) := by
  have he : ((ix xs).drop i).take k = ix ((xs.drop i).take k) := by rw [ix_drop, ix_take]
  have h1 : optL (viewG hl 5) (ix ((xs.drop i).take k)) = some ((ix ((xs.drop i).take k)).map fun x => (x, [])) := optL_self _ fun x hx => by
    obtain ⟨n, -, rfl⟩ := List.mem_map.1 hx
    exact viewG_flat rfl 4
  have h2 : (((ix ((xs.drop i).take k)).map fun x => (x, ([] : List Nat))).all fun y => Nat.beq y.1.cells.length 1) = true := by
    rw [List.all_eq_true]
    intro y hy
    obtain ⟨x, hx, rfl⟩ := List.mem_map.1 hy
    obtain ⟨n, -, rfl⟩ := List.mem_map.1 hx
    rfl
  have hc : True ∧ i + k ≤ (ix xs).length := ⟨trivial, by rw [ix_length]; exact h⟩
  unfold viewG
  simp only [flatN, AV.lt, Nat.not_lt_zero, decide_false, Bool.false_eq_true, if_false, hb]
  rw [if_pos hc]
  simp only [he, h1, h2, if_true, List.map_map, Function.comp_def, List.map_id', catT_nil]
theorem viewG_ptr {hl : List Blk} {b g sz : Nat} {nil frz : Bool} {y : AV} (hb : hget hl b = .row nil g frz sz [y]) (hy : flatN true 5 y = true) (hone : y.cells = [y]) : viewG hl 6 (.ptr b g 0 0) = some (.rp true [y], [b]) := by
  have h1 : viewG hl 5 y = some (y, []) := by simp only [viewG, hy]
  unfold viewG
  simp only [flatN, AV.lt, Nat.not_lt_zero, decide_false, Bool.false_eq_true, if_false, hb, if_true, List.getElem?_cons_zero, hone, List.drop_zero, optL, h1, List.map_cons, List.map_nil, catT, List.append_nil]
theorem viewArgs2 {hl : List Blk} {x y x' y' : AV} {T T' : List Nat} (h1 : viewG hl 6 x = some (x', T)) (h2 : viewG hl 6 y = some (y', T')) : viewArgs hl [x, y] = some ([x', y'], T ++ T') := by
  simp only [viewArgs, h1, h2, List.append_nil]
/-- The numbers of the different points, in order, with zeros behind. -/
def compI (l : List Pt) : List Nat × Nat := compact (sameB l) (orderI l)
def distI (l : List Pt) : List Nat := (compI l).1.take (compI l).2
theorem outer_mem (lt : Nat → Nat → Bool) {n : Nat} : ∀ (k i : Nat) (xs : List Nat), i + k ≤ xs.length → (∀ x ∈ xs, x < n) → ∀ x ∈ outer lt k i xs, x < n := by
  intro k
  induction k with
  | zero => intro i xs _ h; exact h
  | succ k ih =>
    intro i xs hi h
    simp only [outer]
    exact ih (i + 1) _ (by rw [inner_length]; omega) (inner_mem lt i xs (by omega) h)
theorem orderI_mem (l : List Pt) : ∀ x ∈ orderI l, x < l.length := by
  unfold orderI insort
  by_cases h : l.length = 0
  · rw [h]; intro x hx; simp [outer] at hx
  · exact outer_mem _ _ _ _ (by simp; omega) (fun x hx => List.mem_range.1 hx)
theorem orderI_length (l : List Pt) : (orderI l).length = l.length := by unfold orderI; rw [insort_length, List.length_range]
theorem compIn_spec (eq : Nat → Nat → Bool) {n : Nat} (k0 : Nat) : ∀ (f k2 k : Nat) (xs : List Nat), k < k0 + k2 → k0 + k2 + f ≤ xs.length → (∀ x ∈ xs, x < n) → (compIn eq k0 f k2 k xs).1.length = xs.length ∧ (∀ x ∈ (compIn eq k0 f k2 k xs).1, x < n) ∧ (compIn eq k0 f k2 k xs).2 ≤ k + f ∧ k ≤ (compIn eq k0 f k2 k xs).2 := by
  intro f
  induction f with
  | zero => intro k2 k xs _ _ h; exact ⟨rfl, h, Nat.le_refl _, Nat.le_refl _⟩
  | succ f ih =>
    intro k2 k xs hk hf h
    simp only [compIn]
    split
    · obtain ⟨a1, a2, a3, a4⟩ := ih (k2 + 1) k xs (by omega) (by omega) h
      exact ⟨a1, a2, by omega, a4⟩
    · obtain ⟨a1, a2, a3, a4⟩ := ih (k2 + 1) (k + 1) (xs.set k (xs.getD (k0 + k2) 0)) (by omega) (by simp; omega) (fun x hx => by
        rcases List.mem_or_eq_of_mem_set hx with h1 | h1
        · exact h x h1
        · rw [h1]; exact getD_lt h (by omega))
      exact ⟨by simpa using a1, a2, by omega, by omega⟩
theorem compOut_spec (eq : Nat → Nat → Bool) {n : Nat} (hn : 0 < n) : ∀ (f k : Nat) (xs : List Nat), 1 ≤ k → k + f ≤ xs.length → (∀ x ∈ xs, x < n) → (compOut eq f k xs).1.length = xs.length ∧ (∀ x ∈ (compOut eq f k xs).1, x < n) ∧ (compOut eq f k xs).2 ≤ xs.length ∧ (1 ≤ xs.length → 1 ≤ (compOut eq f k xs).2) := by
  intro f
  induction f with
  | zero => intro k xs _ _ h; exact ⟨rfl, h, Nat.le_refl _, id⟩
  | succ f ih =>
    intro k xs hk hf h
    simp only [compOut]
    split
    · obtain ⟨a1, a2, a3, a4⟩ := compIn_spec eq k (xs.length - k - 1) 1 k xs (by omega) (by omega) h
      refine ⟨?_, fun x hx => ?_, by simp only [zeroed]; omega, fun _ => by simp only [zeroed]; omega⟩
      · simp only [zeroed, List.length_append, List.length_take, List.length_replicate, a1]; omega
      · simp only [zeroed] at hx
        rcases List.mem_append.1 hx with h1 | h1
        · exact a2 x (List.mem_of_mem_take h1)
        · rw [List.eq_of_mem_replicate h1]; exact hn
    · exact ih (k + 1) xs (by omega) (by omega) h
theorem compI_spec {l : List Pt} (hl : 0 < l.length) : (compI l).1.length = l.length ∧ (∀ x ∈ (compI l).1, x < l.length) ∧ (compI l).2 ≤ l.length ∧ 1 ≤ (compI l).2 := by
  unfold compI compact
  have h1 := orderI_length l
  split
  · exact ⟨h1, orderI_mem l, by simp only; omega, by simp only; omega⟩
  · obtain ⟨a1, a2, a3, a4⟩ := compOut_spec (sameB l) hl ((orderI l).length - 1) 1 (orderI l) (Nat.le_refl _) (by omega) (orderI_mem l)
    exact ⟨by rw [a1, h1], a2, by omega, a4 (by omega)⟩
theorem rv_length (n : Nat) : ∀ (f i : Nat) (xs : List Nat), (rv n f i xs).length = xs.length := by
  intro f
  induction f with
  | zero => intro i xs; rfl
  | succ f ih => intro i xs; simp only [rv]; split <;> simp [ih]
theorem rv_mem {n m : Nat} : ∀ (f i : Nat) (xs : List Nat), n ≤ xs.length → (∀ x ∈ xs, x < m) → ∀ x ∈ rv n f i xs, x < m := by
  intro f
  induction f with
  | zero => intro i xs _ h; exact h
  | succ f ih =>
    intro i xs hn h
    simp only [rv]
    split
    · rename_i hi
      refine ih (i + 1) _ (by simp; omega) fun x hx => ?_
      rcases List.mem_or_eq_of_mem_set hx with h1 | h1
      · rcases List.mem_or_eq_of_mem_set h1 with h2 | h2
        · exact h x h2
        · rw [h2]; exact getD_lt h (by omega)
      · rw [h1]; exact getD_lt h (by omega)
    · exact h
/-- The vertices, as they are found. -/
def revI (l : List Pt) : List Nat := (rv (compI l).2 (compI l).2 0 (compI l).1).take (compI l).2
def hullI (l : List Pt) : List Nat :=
  if (compI l).2 < 3 then distI l
  else ((chainS l (distI l)).reverse.take ((chainS l (distI l)).length - 1)) ++ ((chainS l (revI l)).reverse.take ((chainS l (revI l)).length - 1))
theorem distI_length {l : List Pt} (hl : 0 < l.length) : (distI l).length = (compI l).2 := by
  obtain ⟨a1, a2, a3, a4⟩ := compI_spec hl
  unfold distI; rw [List.length_take, a1]; omega
theorem revI_length {l : List Pt} (hl : 0 < l.length) : (revI l).length = (compI l).2 := by
  obtain ⟨a1, a2, a3, a4⟩ := compI_spec hl
  unfold revI; rw [List.length_take, rv_length, a1]; omega
theorem chain_le {l : List Pt} : ∀ (ord st : List Nat), (ord.foldl (fun st i => i :: pop l i st) st).length ≤ st.length + ord.length := by
  intro ord
  induction ord with
  | nil => intro st; simp
  | cons o os ih =>
    intro st
    simp only [List.foldl_cons]
    have h1 := ih (o :: pop l o st)
    have h2 := pop_length (l := l) (i := o) st
    simp only [List.length_cons] at h1 ⊢
    omega
theorem all_ix (xs : List Nat) : (ix xs).all AV.elem = true := by
  rw [List.all_eq_true]
  intro x hx
  obtain ⟨n, -, rfl⟩ := List.mem_map.1 hx
  rfl
theorem c51 (l : List Pt) (hl : 0 < l.length) (hn : l.length < 20) (hok : l.all okP = true) :
    ∃ (zs : List Nat), zs.take (hullI l).length = hullI l ∧ (hullI l).length ≤ zs.length ∧ CallsF Try.prog 51 [pts l] [] (.sl 0 0 0 (hullI l).length) [.row false 0 false 1 (ix zs)] := by
  obtain ⟨a1, a2, a3, a4⟩ := compI_spec hl
  have hchk : chk l = 0 := by unfold chk; rw [if_neg (by omega), if_pos hok]
  have hd := distI_length hl
  have hr := revI_length hl
  have hdm : ∀ x ∈ distI l, x < l.length := fun x hx => a2 x (List.mem_of_mem_take hx)
  have hrm : ∀ x ∈ revI l, x < l.length := fun x hx => rv_mem _ _ _ (by omega) a2 x (List.mem_of_mem_take hx)
  have hc84 := c84 l 0 (orderI l) (orderI_mem l) (by rw [orderI_length]; omega)
  rw [orderI_length] at hc84
  have key : ∀ (zs : List Nat) (b g : Nat), zs.take (hullI l).length = hullI l → (hullI l).length ≤ zs.length → (CWx Try.prog 0 true cf51.code (argsAl 0 [pts l]) [] (finK cf51.rvs 0 (.sl 0 0 0 (hullI l).length) [.row false 0 false 1 (ix zs)])) →
      ∃ (zs : List Nat), zs.take (hullI l).length = hullI l ∧ (hullI l).length ≤ zs.length ∧ CallsF Try.prog 51 [pts l] [] (.sl 0 0 0 (hullI l).length) [.row false 0 false 1 (ix zs)] := fun zs b g h1 h2 h3 => ⟨zs, h1, h2, callsF_cwx hm hf51 (by simp [cf51]) h3⟩
  by_cases h3 : ((compI l).2 : Int) < 3
  · have hh : hullI l = distI l := by unfold hullI; rw [if_pos (by omega)]
    refine key (compI l).1 0 0 (by rw [hh, hd]; rfl) (by rw [hh, hd, a1]; exact a3) ?_
    rw [hh, hd]
    simp only [cf51, argsAl]
    refine CWx.r fun K hK => ?_
    simp (maxSteps := 4000000) only [amC, amX, dr3, dr4, AV.elem, AV.cells, AV.one, loadAV, faddrAV, binAV, storeAV, AV.putCells, AV.ref, if_true, if_false, Nat.reduceEqDiff, Nat.reduceAdd, Nat.reduceLT, Nat.reduceLeDiff, reduceCtorEq, ↓reduceIte, pickAV, lenAV, intAV, slcA, slcAV, iaddrAV, extAV, fldAV, eqCell, contAV, appendAV, maxI, minI, Option.some.injEq, catT, AV.elem, AV.cells, AV.one, pts, List.all_cons, List.all_nil]
    refine hK _ _ _ nofun ?_
    clear hK K
    refine CWx.r fun K hK => ?_
    simp (maxSteps := 4000000) only [amC, amX, dr3, dr4, AV.elem, AV.cells, AV.one, loadAV, faddrAV, binAV, storeAV, AV.putCells, AV.ref, if_true, if_false, Nat.reduceEqDiff, Nat.reduceAdd, Nat.reduceLT, Nat.reduceLeDiff, reduceCtorEq, ↓reduceIte, pickAV, lenAV, intAV, slcA, slcAV, iaddrAV, extAV, fldAV, eqCell, contAV, appendAV, maxI, minI, Option.some.injEq, catT, AV.cells]
    refine RCx.viewR (fid := 83) (caps := []) rfl rfl (viewArgs_flat1 (flat_pts l 2)) (c83 l hn hchk) (by simp [AV.clean, cleanL, Blk.clean, cleanL_ix]) ?_
    simp (maxSteps := 4000000) only [amC, amX, dr3, dr4, AV.elem, AV.cells, AV.one, loadAV, faddrAV, binAV, storeAV, AV.putCells, AV.ref, if_true, if_false, Nat.reduceEqDiff, Nat.reduceAdd, Nat.reduceLT, Nat.reduceLeDiff, reduceCtorEq, ↓reduceIte, pickAV, lenAV, intAV, slcA, slcAV, iaddrAV, extAV, fldAV, eqCell, contAV, appendAV, maxI, minI, Option.some.injEq, catT, AV.ren, renL, Blk.ren, renL_id (ix (orderI l)) (ltL_ix _ _)]
    refine hK _ _ _ nofun ?_
    clear hK K
    refine CWx.seq ?_
    refine CWx.r fun K hK => ?_
    simp (maxSteps := 4000000) only [amC, amX, dr3, dr4, AV.elem, AV.cells, AV.one, loadAV, faddrAV, binAV, storeAV, AV.putCells, AV.ref, if_true, if_false, Nat.reduceEqDiff, Nat.reduceAdd, Nat.reduceLT, Nat.reduceLeDiff, reduceCtorEq, ↓reduceIte, pickAV, lenAV, intAV, slcA, slcAV, iaddrAV, extAV, fldAV, eqCell, contAV, appendAV, maxI, minI, Option.some.injEq, catT, show ((0 : Int) != 0) = false from rfl]
    refine hK _ _ _ nofun ?_
    clear hK K
    refine CWx.condF rfl (CWx.skip (CWx.go ?_))
    refine CWx.r fun K hK => ?_
    simp (maxSteps := 4000000) only [amC, amX, dr3, dr4, AV.elem, AV.cells, AV.one, loadAV, faddrAV, binAV, storeAV, AV.putCells, AV.ref, if_true, if_false, Nat.reduceEqDiff, Nat.reduceAdd, Nat.reduceLT, Nat.reduceLeDiff, reduceCtorEq, ↓reduceIte, pickAV, lenAV, intAV, slcA, slcAV, iaddrAV, extAV, fldAV, eqCell, contAV, appendAV, maxI, minI, Option.some.injEq, catT]
    refine RCx.oneR (fid := 84) (caps := []) rfl rfl (b := 2) (X := [.sl 2 0 0 l.length, .clo 85 [.ptr 0 0 0 0]]) (args := [.sl 0 0 0 l.length, .clo 85 [.rp true [pts l]]]) (.cons (.row 0 0 l.length) (.cons (.view (viewG_clo rfl (flat_pts l 2) rfl) rfl) .nil)) hc84 (by simp) rfl (by simp only [Blk.lt, ltL_ix]) rfl (by simp only [Blk.lt, ltL_ix]) (by simp only [Blk.clean, cleanL_ix]) (r' := .sl 2 0 0 (compI l).2) (by simp [AV.ren, sigma, compI]) ?_
    simp (maxSteps := 4000000) only [amC, amX, dr3, dr4, AV.elem, AV.cells, AV.one, loadAV, faddrAV, binAV, storeAV, AV.putCells, AV.ref, if_true, if_false, Nat.reduceEqDiff, Nat.reduceAdd, Nat.reduceLT, Nat.reduceLeDiff, reduceCtorEq, ↓reduceIte, pickAV, lenAV, intAV, slcA, slcAV, iaddrAV, extAV, fldAV, eqCell, contAV, appendAV, maxI, minI, Option.some.injEq, catT]
    refine hK _ _ _ nofun ?_
    clear hK K
    refine CWx.seq ?_
    refine CWx.r fun K hK => ?_
    simp (maxSteps := 4000000) only [amC, amX, dr3, dr4, AV.elem, AV.cells, AV.one, loadAV, faddrAV, binAV, storeAV, AV.putCells, AV.ref, if_true, if_false, Nat.reduceEqDiff, Nat.reduceAdd, Nat.reduceLT, Nat.reduceLeDiff, reduceCtorEq, ↓reduceIte, pickAV, lenAV, intAV, slcA, slcAV, iaddrAV, extAV, fldAV, eqCell, contAV, appendAV, maxI, minI, Option.some.injEq, catT, h3]
    refine hK _ _ _ nofun ?_
    clear hK K
    refine CWx.condT rfl ?_
    refine CWx.r fun K hK => ?_
    simp (maxSteps := 4000000) only [amC, amX, dr3, dr4, AV.elem, AV.cells, AV.one, loadAV, faddrAV, binAV, storeAV, AV.putCells, AV.ref, if_true, if_false, Nat.reduceEqDiff, Nat.reduceAdd, Nat.reduceLT, Nat.reduceLeDiff, reduceCtorEq, ↓reduceIte, pickAV, lenAV, intAV, slcA, slcAV, iaddrAV, extAV, fldAV, eqCell, contAV, appendAV, maxI, minI, Option.some.injEq, catT]
    refine hK _ _ _ nofun ?_
    clear hK K
    refine CWx.ret fun al hal => finK_ext hal (finK_new (.inr rfl) (xs := [.sl 2 0 0 (compI l).2]) (b := 2) (g := 0) (nil := false) (ys := ix (compI l).1) (by simp [resRV, Am.get]) rfl (allRL_ix _ _ _) ?_ ?_)
    · simp [tupAV, AV.allR, sigP]
    · simp [tupAV, AV.mapR, sigF]
  · have hm3 : 3 ≤ (compI l).2 := by omega
    obtain ⟨C, hC⟩ : ∃ C, C = (chainS l (distI l)).reverse := ⟨_, rfl⟩
    obtain ⟨R, hR⟩ : ∃ R, R = (chainS l (revI l)).reverse := ⟨_, rfl⟩
    obtain ⟨n1, hn1⟩ : ∃ n1, n1 = (chainS l (distI l)).length - 1 := ⟨_, rfl⟩
    obtain ⟨n2, hn2⟩ : ∃ n2, n2 = (chainS l (revI l)).length - 1 := ⟨_, rfl⟩
    have hCl : C.length = (chainS l (distI l)).length := by rw [hC]; simp
    have hRl : R.length = (chainS l (revI l)).length := by rw [hR]; simp
    have hne1 : distI l ≠ [] := by intro h; rw [h] at hd; simp at hd; omega
    have hne2 : revI l ≠ [] := by intro h; rw [h] at hr; simp at hr; omega
    have hp1 := chain_pos (l := l) (distI l) [] hne1
    have hp2 := chain_pos (l := l) (revI l) [] hne2
    have hb1 : (chainS l (distI l)).length ≤ (compI l).2 := by have := chain_le (l := l) (distI l) []; rw [hd] at this; simpa [chainS] using this
    have hb2 : (chainS l (revI l)).length ≤ (compI l).2 := by have := chain_le (l := l) (revI l) []; rw [hr] at this; simpa [chainS] using this
    have k1 := c86 l hok (distI l) hdm hne1 (by omega)
    have k2 := c86 l hok (revI l) hrm hne2 (by omega)
    rw [← hC, ← hn1] at k1
    rw [← hR, ← hn2] at k2
    have hn1C : n1 ≤ C.length := by omega
    have hn2R : n2 ≤ R.length := by omega
    have hh : hullI l = C.take n1 ++ R.take n2 := by unfold hullI; rw [if_neg (by omega), ← hC, ← hR, ← hn1, ← hn2]
    have hl1 : (C.take n1).length = n1 := by rw [List.length_take]; omega
    have hl2 : (R.take n2).length = n2 := by rw [List.length_take]; omega
    have hlen : (hullI l).length = n1 + n2 := by rw [hh, List.length_append, hl1, hl2]
    refine key (hullI l) 0 0 (List.take_of_length_le (Nat.le_refl _)) (Nat.le_refl _) ?_
    simp only [cf51, argsAl]
    refine CWx.r fun K hK => ?_
    simp (maxSteps := 4000000) only [amC, amX, dr3, dr4, AV.elem, AV.cells, AV.one, loadAV, faddrAV, binAV, storeAV, AV.putCells, AV.ref, if_true, if_false, Nat.reduceEqDiff, Nat.reduceAdd, Nat.reduceLT, Nat.reduceLeDiff, reduceCtorEq, ↓reduceIte, pickAV, lenAV, intAV, slcA, slcAV, iaddrAV, extAV, fldAV, eqCell, contAV, appendAV, maxI, minI, Option.some.injEq, catT, AV.elem, AV.cells, AV.one, pts, List.all_cons, List.all_nil]
    refine hK _ _ _ nofun ?_
    clear hK K
    refine CWx.r fun K hK => ?_
    simp (maxSteps := 4000000) only [amC, amX, dr3, dr4, AV.elem, AV.cells, AV.one, loadAV, faddrAV, binAV, storeAV, AV.putCells, AV.ref, if_true, if_false, Nat.reduceEqDiff, Nat.reduceAdd, Nat.reduceLT, Nat.reduceLeDiff, reduceCtorEq, ↓reduceIte, pickAV, lenAV, intAV, slcA, slcAV, iaddrAV, extAV, fldAV, eqCell, contAV, appendAV, maxI, minI, Option.some.injEq, catT, AV.cells]
    refine RCx.viewR (fid := 83) (caps := []) rfl rfl (viewArgs_flat1 (flat_pts l 2)) (c83 l hn hchk) (by simp [AV.clean, cleanL, Blk.clean, cleanL_ix]) ?_
    simp (maxSteps := 4000000) only [amC, amX, dr3, dr4, AV.elem, AV.cells, AV.one, loadAV, faddrAV, binAV, storeAV, AV.putCells, AV.ref, if_true, if_false, Nat.reduceEqDiff, Nat.reduceAdd, Nat.reduceLT, Nat.reduceLeDiff, reduceCtorEq, ↓reduceIte, pickAV, lenAV, intAV, slcA, slcAV, iaddrAV, extAV, fldAV, eqCell, contAV, appendAV, maxI, minI, Option.some.injEq, catT, AV.ren, renL, Blk.ren, renL_id (ix (orderI l)) (ltL_ix _ _)]
    refine hK _ _ _ nofun ?_
    clear hK K
    refine CWx.seq ?_
    refine CWx.r fun K hK => ?_
    simp (maxSteps := 4000000) only [amC, amX, dr3, dr4, AV.elem, AV.cells, AV.one, loadAV, faddrAV, binAV, storeAV, AV.putCells, AV.ref, if_true, if_false, Nat.reduceEqDiff, Nat.reduceAdd, Nat.reduceLT, Nat.reduceLeDiff, reduceCtorEq, ↓reduceIte, pickAV, lenAV, intAV, slcA, slcAV, iaddrAV, extAV, fldAV, eqCell, contAV, appendAV, maxI, minI, Option.some.injEq, catT, show ((0 : Int) != 0) = false from rfl]
    refine hK _ _ _ nofun ?_
    clear hK K
    refine CWx.condF rfl (CWx.skip (CWx.go ?_))
    refine CWx.r fun K hK => ?_
    simp (maxSteps := 4000000) only [amC, amX, dr3, dr4, AV.elem, AV.cells, AV.one, loadAV, faddrAV, binAV, storeAV, AV.putCells, AV.ref, if_true, if_false, Nat.reduceEqDiff, Nat.reduceAdd, Nat.reduceLT, Nat.reduceLeDiff, reduceCtorEq, ↓reduceIte, pickAV, lenAV, intAV, slcA, slcAV, iaddrAV, extAV, fldAV, eqCell, contAV, appendAV, maxI, minI, Option.some.injEq, catT]
    refine RCx.oneR (fid := 84) (caps := []) rfl rfl (b := 2) (X := [.sl 2 0 0 l.length, .clo 85 [.ptr 0 0 0 0]]) (args := [.sl 0 0 0 l.length, .clo 85 [.rp true [pts l]]]) (.cons (.row 0 0 l.length) (.cons (.view (viewG_clo rfl (flat_pts l 2) rfl) rfl) .nil)) hc84 (by simp) rfl (by simp only [Blk.lt, ltL_ix]) rfl (by simp only [Blk.lt, ltL_ix]) (by simp only [Blk.clean, cleanL_ix]) (r' := .sl 2 0 0 (compI l).2) (by simp [AV.ren, sigma, compI]) ?_
    simp (maxSteps := 4000000) only [amC, amX, dr3, dr4, AV.elem, AV.cells, AV.one, loadAV, faddrAV, binAV, storeAV, AV.putCells, AV.ref, if_true, if_false, Nat.reduceEqDiff, Nat.reduceAdd, Nat.reduceLT, Nat.reduceLeDiff, reduceCtorEq, ↓reduceIte, pickAV, lenAV, intAV, slcA, slcAV, iaddrAV, extAV, fldAV, eqCell, contAV, appendAV, maxI, minI, Option.some.injEq, catT]
    refine hK _ _ _ nofun ?_
    clear hK K
    refine CWx.seq ?_
    refine CWx.r fun K hK => ?_
    simp (maxSteps := 4000000) only [amC, amX, dr3, dr4, AV.elem, AV.cells, AV.one, loadAV, faddrAV, binAV, storeAV, AV.putCells, AV.ref, if_true, if_false, Nat.reduceEqDiff, Nat.reduceAdd, Nat.reduceLT, Nat.reduceLeDiff, reduceCtorEq, ↓reduceIte, pickAV, lenAV, intAV, slcA, slcAV, iaddrAV, extAV, fldAV, eqCell, contAV, appendAV, maxI, minI, Option.some.injEq, catT, h3]
    refine hK _ _ _ nofun ?_
    clear hK K
    refine CWx.condF rfl (CWx.skip (CWx.go ?_))
    refine CWx.r fun K hK => ?_
    simp (maxSteps := 4000000) only [amC, amX, dr3, dr4, AV.elem, AV.cells, AV.one, loadAV, faddrAV, binAV, storeAV, AV.putCells, AV.ref, if_true, if_false, Nat.reduceEqDiff, Nat.reduceAdd, Nat.reduceLT, Nat.reduceLeDiff, reduceCtorEq, ↓reduceIte, pickAV, lenAV, intAV, slcA, slcAV, iaddrAV, extAV, fldAV, eqCell, contAV, appendAV, maxI, minI, Option.some.injEq, catT]
    refine hK _ _ _ nofun ?_
    clear hK K
    refine CWx.r fun K hK => ?_
    simp (maxSteps := 4000000) only [amC, amX, dr3, dr4, AV.elem, AV.cells, AV.one, loadAV, faddrAV, binAV, storeAV, AV.putCells, AV.ref, if_true, if_false, Nat.reduceEqDiff, Nat.reduceAdd, Nat.reduceLT, Nat.reduceLeDiff, reduceCtorEq, ↓reduceIte, pickAV, lenAV, intAV, slcA, slcAV, iaddrAV, extAV, fldAV, eqCell, contAV, appendAV, maxI, minI, Option.some.injEq, catT]
    refine RCx.viewR (fid := 86) (caps := [.ptr 0 0 0 0]) rfl rfl (viewArgs2 (viewG_ix (b := 2) (g := 0) (i := 0) (k := (compI l).2) (nil := false) (frz := false) (xs := (compI l).1) rfl (by omega)) (viewG_ptr (b := 0) (g := 0) (sz := 1) (nil := false) (frz := false) (y := pts l) rfl (flat_pts l 2) rfl)) k1 (by simp [AV.clean, Blk.clean, cleanL_ix]) ?_
    simp (maxSteps := 4000000) only [amC, amX, dr3, dr4, AV.elem, AV.cells, AV.one, loadAV, faddrAV, binAV, storeAV, AV.putCells, AV.ref, if_true, if_false, Nat.reduceEqDiff, Nat.reduceAdd, Nat.reduceLT, Nat.reduceLeDiff, reduceCtorEq, ↓reduceIte, pickAV, lenAV, intAV, slcA, slcAV, iaddrAV, extAV, fldAV, eqCell, contAV, appendAV, maxI, minI, Option.some.injEq, catT, AV.ren, renL, Blk.ren, renL_id (ix C) (ltL_ix _ _)]
    refine hK _ _ _ nofun ?_
    clear hK K
    refine CWx.r fun K hK => ?_
    simp (maxSteps := 4000000) only [amC, amX, dr3, dr4, AV.elem, AV.cells, AV.one, loadAV, faddrAV, binAV, storeAV, AV.putCells, AV.ref, if_true, if_false, Nat.reduceEqDiff, Nat.reduceAdd, Nat.reduceLT, Nat.reduceLeDiff, reduceCtorEq, ↓reduceIte, pickAV, lenAV, intAV, slcA, slcAV, iaddrAV, extAV, fldAV, eqCell, contAV, appendAV, maxI, minI, Option.some.injEq, catT]
    refine RCx.one (fid := 87) (caps := []) rfl rfl (b := 2) (X := [.sl 2 0 0 (compI l).2]) (args := [.sl 0 0 0 (compI l).2]) (.cons (.row 0 0 (compI l).2) .nil) (c87' 0 (compI l).2 (compI l).1 (by omega) (by omega)) (by simp) rfl (by simp only [Blk.lt, ltL_ix]) rfl (by simp only [Blk.lt, ltL_ix]) (by simp only [Blk.clean, cleanL_ix]) ?_
    simp (maxSteps := 4000000) only [amC, amX, dr3, dr4, AV.elem, AV.cells, AV.one, loadAV, faddrAV, binAV, storeAV, AV.putCells, AV.ref, if_true, if_false, Nat.reduceEqDiff, Nat.reduceAdd, Nat.reduceLT, Nat.reduceLeDiff, reduceCtorEq, ↓reduceIte, pickAV, lenAV, intAV, slcA, slcAV, iaddrAV, extAV, fldAV, eqCell, contAV, appendAV, maxI, minI, Option.some.injEq, catT]
    refine hK _ _ _ nofun ?_
    clear hK K
    refine CWx.r fun K hK => ?_
    simp (maxSteps := 4000000) only [amC, amX, dr3, dr4, AV.elem, AV.cells, AV.one, loadAV, faddrAV, binAV, storeAV, AV.putCells, AV.ref, if_true, if_false, Nat.reduceEqDiff, Nat.reduceAdd, Nat.reduceLT, Nat.reduceLeDiff, reduceCtorEq, ↓reduceIte, pickAV, lenAV, intAV, slcA, slcAV, iaddrAV, extAV, fldAV, eqCell, contAV, appendAV, maxI, minI, Option.some.injEq, catT]
    refine RCx.viewR (fid := 86) (caps := [.ptr 0 0 0 0]) rfl rfl (viewArgs2 (viewG_ix (b := 2) (g := 0) (i := 0) (k := (compI l).2) (nil := false) (frz := false) (xs := rv (compI l).2 (compI l).2 0 (compI l).1) rfl (by rw [rv_length]; omega)) (viewG_ptr (b := 0) (g := 0) (sz := 1) (nil := false) (frz := false) (y := pts l) rfl (flat_pts l 2) rfl)) k2 (by simp [AV.clean, Blk.clean, cleanL_ix]) ?_
    have hbd : (n1 + n2) * 8 ≤ appBound := by unfold appBound; omega
    simp (maxSteps := 4000000) only [amC, amX, dr3, dr4, AV.elem, AV.cells, AV.one, loadAV, faddrAV, binAV, storeAV, AV.putCells, AV.ref, if_true, if_false, Nat.reduceEqDiff, Nat.reduceAdd, Nat.reduceLT, Nat.reduceLeDiff, reduceCtorEq, ↓reduceIte, pickAV, lenAV, intAV, slcA, slcAV, iaddrAV, extAV, fldAV, eqCell, contAV, appendAV, maxI, minI, Option.some.injEq, catT, AV.ren, renL, Blk.ren, renL_id (ix R) (ltL_ix _ _), ix_length, hn2R, ix_take, all_ix, hl2, hn1C, hbd, true_or, Bool.false_and]
    refine hK _ _ _ nofun ?_
    clear hK K
    refine CWx.ret fun al hal => finK_ext hal (finK_new (.inr rfl) (xs := [.sl 3 1 0 (n1 + n2)]) (b := 3) (g := 1) (nil := false) (ys := ix (hullI l)) (by simp [resRV, Am.get]) ?_ (allRL_ix _ _ _) ?_ ?_)
    · simp only [hget, List.getElem?_cons_succ, List.getElem?_cons_zero, Option.getD_some, hh, ix_append]
    · simp [tupAV, AV.allR, sigP]
    · simp [tupAV, AV.mapR, sigF, hlen]
end Go.Hull
end
section
set_option linter.unusedVariables false
namespace Go.Hull

def Lp (u : Pt) : Prop := 0 < u.1 ∨ (u.1 = 0 ∧ 0 < u.2)
theorem before_iff {p q : Pt} : before p q = true ↔ Lp (sub q p) := by
  simp only [before, Lp, sub, Bool.or_eq_true, Bool.and_eq_true, decide_eq_true_eq, beq_iff_eq]
  omega
theorem before_irrefl (p : Pt) : before p p = false := by
  cases h : before p p with
  | false => rfl
  | true => rw [before_iff] at h; simp only [Lp, sub] at h; omega
theorem before_trans {p q r : Pt} (h1 : before p q = true) (h2 : before q r = true) : before p r = true := by
  rw [before_iff] at *; simp only [Lp, sub] at *; omega
theorem before_asymm {p q : Pt} (h1 : before p q = true) : before q p = false := by
  cases h : before q p with
  | false => rfl
  | true => have := before_trans h1 h; rw [before_irrefl] at this; cases this
theorem before_total (p q : Pt) : p = q ∨ before p q = true ∨ before q p = true := by
  simp only [before, Bool.or_eq_true, Bool.and_eq_true, decide_eq_true_eq, beq_iff_eq]
  by_cases h1 : p.1 = q.1
  · by_cases h2 : p.2 = q.2
    · exact .inl (Prod.ext h1 h2)
    · omega
  · omega
theorem turn_trans {u v w : Pt} (hu : Lp u) (hv : Lp v) (hw : Lp w) (h1 : 0 ≤ turn u v) (h2 : 0 ≤ turn v w) : 0 ≤ turn u w := by
  obtain ⟨a, b⟩ := u
  obtain ⟨c, d⟩ := v
  obtain ⟨e, f⟩ := w
  simp only [Lp, turn] at *
  have ha : 0 ≤ a := by omega
  have he : 0 ≤ e := by omega
  rcases hv with hc | ⟨hc, hd⟩
  · have e1 : c * (a * f - b * e) = a * (c * f - d * e) + e * (a * d - b * c) := by grind
    have e2 := Int.mul_nonneg ha h2
    have e3 := Int.mul_nonneg he h1
    have e4 : 0 ≤ c * (a * f - b * e) := by omega
    exact Int.nonneg_of_mul_nonneg_right e4 hc
  · subst hc
    have e0 : e = 0 := by
      rcases Int.lt_or_eq_of_le he with h | h
      · have := Int.mul_pos hd h
        simp only [Int.zero_mul] at h2
        omega
      · exact h.symm
    subst e0
    have hf : 0 < f := by omega
    have := Int.mul_nonneg ha (Int.le_of_lt hf)
    simp only [Int.mul_zero]
    omega
theorem turn_zero {u v w : Pt} (hu : Lp u) (h1 : turn u v = 0) (h2 : turn u w = 0) : turn v w = 0 := by
  obtain ⟨a, b⟩ := u
  obtain ⟨c, d⟩ := v
  obtain ⟨e, f⟩ := w
  simp only [Lp, turn] at *
  have e1 : a * (c * f - d * e) = 0 := by grind
  have e2 : b * (c * f - d * e) = 0 := by grind
  rcases Int.mul_eq_zero.1 e1 with h | h
  · rcases Int.mul_eq_zero.1 e2 with h' | h'
    · omega
    · exact h'
  · exact h
theorem turn_anti (u v : Pt) : turn u v = - turn v u := by simp only [turn]; grind
theorem left_self2 (a b : Pt) : left a b b = 0 := by simp only [left, turn, sub]; grind
theorem left_self1 (a b : Pt) : left a b a = 0 := by simp only [left, turn, sub]; grind
theorem left_swap (a b c : Pt) : left b a c = - left a b c := by simp only [left, turn, sub]; grind
theorem left_eq (a b c : Pt) : left a b c = turn (sub b a) (sub c b) := by simp only [left, turn, sub]; grind
theorem left_eq' (a b c : Pt) : left a b c = - turn (sub b a) (sub b c) := by simp only [left, turn, sub]; grind
/-- A chain: from its last point back to its first. -/
inductive Chn (D : Pt → Prop) : List Pt → Prop where
  | one (p : Pt) : Chn D [p]
  | two {a b : Pt} : before a b = true → (∀ q, D q → 0 ≤ left a b q) → Chn D [b, a]
  | more {a b c : Pt} {r : List Pt} : before b c = true → (∀ q, D q → 0 ≤ left b c q) → 0 < left a b c → Chn D (b :: a :: r) → Chn D (c :: b :: a :: r)
theorem Chn.ext {D : Pt → Prop} {p : Pt} : ∀ {r : List Pt} {a b : Pt}, Chn D (b :: a :: r) → 0 ≤ left a b p → before b p = true → Chn (fun q => D q ∨ q = p) (b :: a :: r) := by
  intro r
  induction r with
  | nil =>
    intro a b h hl hb
    cases h with
    | two h1 h2 =>
      refine .two h1 fun q hq => ?_
      rcases hq with hq | rfl
      · exact h2 q hq
      · exact hl
  | cons c r ih =>
    intro a b h hl hb
    cases h with
    | more h1 h2 h3 h4 =>
      have h4' := h4
      have hca : before c a = true := by
        cases h4 with
        | two h _ => exact h
        | more h _ _ _ => exact h
      refine .more h1 (fun q hq => ?_) h3 (ih h4' ?_ (before_trans h1 hb))
      · rcases hq with hq | rfl
        · exact h2 q hq
        · exact hl
      · have k := turn_trans (u := sub a c) (v := sub b a) (w := sub p b) (before_iff.1 hca) (before_iff.1 h1) (before_iff.1 hb) (by rw [← left_eq]; omega) (by rw [← left_eq]; exact hl)
        have e : left c a p = left c a b + turn (sub a c) (sub p b) := by simp only [left, turn, sub]; grind
        omega
def popP (p : Pt) : List Pt → List Pt
  | b :: a :: r => if left a b p ≤ 0 then popP p (a :: r) else b :: a :: r
  | st => st
theorem popP_getLast (p : Pt) : ∀ (st : List Pt), (popP p st).getLast? = st.getLast? := by
  intro st
  induction st with
  | nil => rfl
  | cons b st ih =>
    cases st with
    | nil => rfl
    | cons a r =>
      simp only [popP]
      split
      · rw [ih, List.getLast?_cons_cons]
      · rfl
theorem popP_mem (p : Pt) : ∀ (st : List Pt), ∀ x ∈ popP p st, x ∈ st := by
  intro st
  induction st with
  | nil => intro x hx; exact hx
  | cons b st ih =>
    cases st with
    | nil => intro x hx; exact hx
    | cons a r =>
      intro x hx
      simp only [popP] at hx
      split at hx
      · exact List.mem_cons_of_mem _ (ih x hx)
      · exact hx
theorem Chn.push {D : Pt → Prop} {p : Pt} (hp : ∀ q, D q → before q p = true) : ∀ {st : List Pt}, Chn D st → (∀ x ∈ st, D x) →
    (∀ t, st.getLast? = some t → ∀ q, D q → q = t ∨ before t q = true) →
    (∀ t, st.head? = some t → ∀ q, D q → q = t ∨ before t q = true → 0 ≤ left t p q) →
    Chn (fun q => D q ∨ q = p) (p :: popP p st) := by
  intro st
  induction st with
  | nil => intro h; cases h
  | cons b st ih =>
    intro h hm hlast hT
    cases st with
    | nil =>
      simp only [popP]
      refine .two (hp b (hm b (by simp))) fun q hq => ?_
      rcases hq with hq | rfl
      · exact hT b rfl q hq (hlast b rfl q hq)
      · rw [left_self2]; exact Int.le_refl _
    | cons a r =>
      have hab : before a b = true ∧ (∀ q, D q → 0 ≤ left a b q) ∧ Chn D (a :: r) := by
        cases h with
        | two h1 h2 => exact ⟨h1, h2, .one a⟩
        | more h1 h2 h3 h4 => exact ⟨h1, h2, h4⟩
      obtain ⟨h1, h2, h3⟩ := hab
      have ha := hm a (by simp)
      have hb := hm b (by simp)
      simp only [popP]
      split
      · rename_i hc
        refine ih h3 (fun x hx => hm x (List.mem_cons_of_mem _ hx)) (fun t ht => hlast t (by rw [List.getLast?_cons_cons]; exact ht)) fun t ht q hq hqt => ?_
        simp only [List.head?_cons, Option.some.injEq] at ht
        subst ht
        rcases hqt with rfl | hqt
        · rw [left_self1]; exact Int.le_refl _
        · exact turn_trans (u := sub p a) (v := sub b a) (w := sub q a) (before_iff.1 (hp a ha)) (before_iff.1 h1) (before_iff.1 hqt) (by rw [turn_anti]; simp only [left] at hc; omega) (h2 q hq)
      · rename_i hc
        refine .more (hp b hb) (fun q hq => ?_) (by omega) (h.ext (by omega) (hp b hb))
        rcases hq with hq | rfl
        · rcases before_total q b with hqb | hqb | hqb
          · exact hT b rfl q hq (.inl hqb)
          · have e1 := h2 q hq
            have k := turn_trans (u := sub b q) (v := sub b a) (w := sub p b) (before_iff.1 hqb) (before_iff.1 h1) (before_iff.1 (hp b hb)) (by rw [left_eq'] at e1; rw [turn_anti]; exact e1) (by rw [← left_eq]; omega)
            have e : left b p q = turn (sub b q) (sub p b) := by simp only [left, turn, sub]; grind
            rw [e]; exact k
          · exact hT b rfl q hq (.inr hqb)
        · rw [left_self2]; exact Int.le_refl _
theorem Chn.mono {D D' : Pt → Prop} (h : ∀ q, D' q → D q) : ∀ {st : List Pt}, Chn D st → Chn D' st := by
  intro st hc
  induction hc with
  | one p => exact .one p
  | two h1 h2 => exact .two h1 fun q hq => h2 q (h q hq)
  | more h1 h2 h3 _ ih => exact .more h1 (fun q hq => h2 q (h q hq)) h3 ih
def chainP (ps : List Pt) : List Pt := ps.foldl (fun st p => p :: popP p st) []
structure Ready (don st : List Pt) : Prop where
  chn : Chn (· ∈ don) st
  mem : ∀ x ∈ st, x ∈ don
  last : ∀ t, st.getLast? = some t → ∀ q ∈ don, q = t ∨ before t q = true
  top : ∀ t, st.head? = some t → ∀ q ∈ don, q = t ∨ before q t = true
theorem Ready.push {don st : List Pt} {p : Pt} (h : Ready don st) (hp : ∀ q ∈ don, before q p = true) : Ready (don ++ [p]) (p :: popP p st) := by
  have hne : st ≠ [] := by intro e; have := h.chn; rw [e] at this; cases this
  refine ⟨?_, ?_, ?_, ?_⟩
  · refine (Chn.push (D := (· ∈ don)) hp h.chn h.mem h.last fun t ht q hq hqt => ?_).mono fun q hq => by simpa using hq
    rcases hqt with rfl | hqt
    · rw [left_self1]; exact Int.le_refl _
    · rcases h.top t ht q hq with rfl | h2
      · rw [left_self1]; exact Int.le_refl _
      · rw [before_asymm h2] at hqt; cases hqt
  · intro x hx
    rcases List.mem_cons.1 hx with rfl | hx
    · simp
    · exact List.mem_append_left _ (h.mem x (popP_mem p st x hx))
  · intro t ht q hq
    cases hpp : popP p st with
    | nil =>
      have := popP_getLast p st
      rw [hpp] at this
      exact absurd (List.getLast?_eq_none_iff.1 this.symm) hne
    | cons y ys =>
      rw [hpp, List.getLast?_cons_cons, ← hpp, popP_getLast] at ht
      rcases List.mem_append.1 hq with hq | hq
      · exact h.last t ht q hq
      · rw [List.mem_singleton.1 hq]
        exact .inr (hp t (h.mem t (List.mem_of_getLast? ht)))
  · intro t ht q hq
    simp only [List.head?_cons, Option.some.injEq] at ht
    subst ht
    rcases List.mem_append.1 hq with hq | hq
    · exact .inr (hp q hq)
    · exact .inl (List.mem_singleton.1 hq)
theorem ready_fold : ∀ (rest don st : List Pt), Ready don st → (don ++ rest).Pairwise (fun p q => before p q = true) → Ready (don ++ rest) (rest.foldl (fun st p => p :: popP p st) st) := by
  intro rest
  induction rest with
  | nil => intro don st h _; simpa using h
  | cons p rest ih =>
    intro don st h hp
    have e : don ++ p :: rest = (don ++ [p]) ++ rest := by simp
    rw [e] at hp ⊢
    exact ih (don ++ [p]) _ (h.push fun q hq => (List.pairwise_append.1 (List.pairwise_append.1 hp).1).2.2 q hq p (by simp)) hp
theorem ready_chain {ps : List Pt} (hne : ps ≠ []) (hp : ps.Pairwise (fun p q => before p q = true)) : Ready ps (chainP ps) := by
  cases ps with
  | nil => exact absurd rfl hne
  | cons p rest =>
    refine ready_fold rest [p] [p] ⟨.one p, fun x hx => hx, fun t ht q hq => ?_, fun t ht q hq => ?_⟩ hp
    · simp only [List.getLast?_singleton, Option.some.injEq] at ht
      exact .inl (by rw [List.mem_singleton.1 hq, ht])
    · simp only [List.head?_cons, Option.some.injEq] at ht
      exact .inl (by rw [List.mem_singleton.1 hq, ht])
end Go.Hull
end
section
set_option linter.unusedVariables false
namespace Go.Hull

structure Ch (D : Pt → Prop) (A : Nat → Pt) (x : Nat) : Prop where
  up : ∀ i, i < x → before (A i) (A (i + 1)) = true
  edge : ∀ i, i < x → ∀ q, D q → 0 ≤ left (A i) (A (i + 1)) q
  turns : ∀ i, i + 1 < x → 0 < left (A i) (A (i + 1)) (A (i + 2))
  mem : ∀ i, i ≤ x → D (A i)
  first : ∀ q, D q → q = A 0 ∨ before (A 0) q = true
  last : ∀ q, D q → q = A x ∨ before q (A x) = true
theorem Ch.lt {D : Pt → Prop} {A : Nat → Pt} {x : Nat} (h : Ch D A x) {i : Nat} : ∀ {k : Nat}, i < k → k ≤ x → before (A i) (A k) = true := by
  intro k
  induction k with
  | zero => intro h1; omega
  | succ k ih =>
    intro h1 h2
    by_cases hk : i = k
    · subst hk; exact h.up i (by omega)
    · exact before_trans (ih (by omega) (by omega)) (h.up k (by omega))
theorem Chn.ix {D : Pt → Prop} {st : List Pt} (h : Chn D st) : (∀ i, i + 1 < st.length → before (st.getD (st.length - 1 - i) (0, 0)) (st.getD (st.length - 1 - (i + 1)) (0, 0)) = true ∧ ∀ q, D q → 0 ≤ left (st.getD (st.length - 1 - i) (0, 0)) (st.getD (st.length - 1 - (i + 1)) (0, 0)) q) ∧
    (∀ i, i + 2 < st.length → 0 < left (st.getD (st.length - 1 - i) (0, 0)) (st.getD (st.length - 1 - (i + 1)) (0, 0)) (st.getD (st.length - 1 - (i + 2)) (0, 0))) := by
  induction h with
  | one p => exact ⟨fun i hi => by simp at hi, fun i hi => by simp at hi⟩
  | @two a b h1 h2 =>
    refine ⟨fun i hi => ?_, fun i hi => by simp only [List.length_cons, List.length_nil] at hi; omega⟩
    simp only [List.length_cons, List.length_nil] at hi
    obtain rfl : i = 0 := by omega
    exact ⟨h1, h2⟩
  | @more a b c r h1 h2 h3 h4 ih =>
    simp only [List.length_cons] at ih ⊢
    obtain ⟨i1, i2⟩ := ih
    have sh : ∀ i, i < r.length + 1 + 1 → (c :: b :: a :: r).getD (r.length + 1 + 1 + 1 - 1 - i) (0, 0) = (b :: a :: r).getD (r.length + 1 + 1 - 1 - i) (0, 0) := by
      intro i hi
      rw [show r.length + 1 + 1 + 1 - 1 - i = (r.length + 1 + 1 - 1 - i) + 1 by omega]
      simp
    have tp : (c :: b :: a :: r).getD (r.length + 1 + 1 + 1 - 1 - (r.length + 1 + 1)) (0, 0) = c := by
      rw [show r.length + 1 + 1 + 1 - 1 - (r.length + 1 + 1) = 0 by omega]; rfl
    have tb : (b :: a :: r).getD (r.length + 1 + 1 - 1 - (r.length + 1)) (0, 0) = b := by
      rw [show r.length + 1 + 1 - 1 - (r.length + 1) = 0 by omega]; rfl
    have ta : (b :: a :: r).getD (r.length + 1 + 1 - 1 - r.length) (0, 0) = a := by
      rw [show r.length + 1 + 1 - 1 - r.length = 1 by omega]; rfl
    refine ⟨fun i hi => ?_, fun i hi => ?_⟩
    · by_cases hk : i = r.length + 1
      · subst hk
        rw [sh _ (by omega), tb, tp]
        exact ⟨h1, h2⟩
      · rw [sh _ (by omega), sh _ (by omega)]
        exact i1 i (by omega)
    · by_cases hk : i = r.length
      · subst hk
        rw [sh _ (by omega), sh _ (by omega), tp, ta, tb]
        exact h3
      · rw [sh _ (by omega), sh _ (by omega), sh _ (by omega)]
        exact i2 i (by omega)
theorem Ready.ch {ps st : List Pt} (h : Ready ps st) : Ch (· ∈ ps) (fun i => st.getD (st.length - 1 - i) (0, 0)) (st.length - 1) := by
  have hne : 0 < st.length := by
    cases st with
    | nil => have := h.chn; cases this
    | cons a r => simp
  obtain ⟨i1, i2⟩ := h.chn.ix
  have gm : ∀ k, k < st.length → st.getD k (0, 0) ∈ st := fun k hk => by rw [List.getD_eq_getElem?_getD, List.getElem?_eq_getElem hk]; simp
  refine ⟨fun i hi => (i1 i (by omega)).1, fun i hi => (i1 i (by omega)).2, fun i hi => i2 i (by omega), fun i hi => h.mem _ (gm _ (by omega)), fun q hq => ?_, fun q hq => ?_⟩
  · refine h.last _ ?_ q hq
    simp only [Nat.sub_zero]
    rw [List.getLast?_eq_getElem?, List.getD_eq_getElem?_getD, List.getElem?_eq_getElem (by omega)]
    simp
  · refine h.top _ ?_ q hq
    simp only [Nat.sub_self]
    cases st with
    | nil => simp at hne
    | cons a r => rfl
def neg (p : Pt) : Pt := (-p.1, -p.2)
theorem neg_neg' (p : Pt) : neg (neg p) = p := by simp [neg]
theorem left_neg (a b c : Pt) : left (neg a) (neg b) (neg c) = left a b c := by simp only [left, turn, sub, neg]; grind
theorem before_neg (a b : Pt) : before (neg a) (neg b) = before b a := by
  have : ∀ x y : Bool, (x = true ↔ y = true) → x = y := by decide
  apply this
  rw [before_iff, before_iff]
  simp only [Lp, sub, neg]; omega
/-- The lower chain A, the upper chain B (taken from the greatest point on), and all points D. -/
structure Two (D : Pt → Prop) (A B : Nat → Pt) (x y : Nat) : Prop where
  lo : Ch D A x
  hi : Ch (fun q => D (neg q)) (fun i => neg (B i)) y
  x1 : 0 < x
  y1 : 0 < y
variable {D : Pt → Prop} {A B : Nat → Pt} {x y : Nat}

theorem Two.memB (h : Two D A B x y) {j : Nat} (hj : j ≤ y) : D (B j) := by have := h.hi.mem j hj; simpa only [neg_neg'] using this
theorem Two.edgeB (h : Two D A B x y) {j : Nat} (hj : j < y) {q : Pt} (hq : D q) : 0 ≤ left (B j) (B (j + 1)) q := by
  have := h.hi.edge j hj (neg q) (by simpa only [neg_neg'] using hq)
  simpa only [left_neg] using this
theorem Two.turnB (h : Two D A B x y) {j : Nat} (hj : j + 1 < y) : 0 < left (B j) (B (j + 1)) (B (j + 2)) := by
  have := h.hi.turns j hj
  simpa only [left_neg] using this
theorem Two.ltB (h : Two D A B x y) {i j : Nat} (hij : i < j) (hj : j ≤ y) : before (B j) (B i) = true := by
  have := h.hi.lt hij hj
  simpa only [before_neg] using this
theorem Two.join1 (h : Two D A B x y) : A x = B 0 := by
  rcases h.lo.last _ (h.memB (Nat.zero_le _)) with e | e
  · exact e.symm
  · rcases h.hi.first (neg (A x)) (by simpa only [neg_neg'] using h.lo.mem x (Nat.le_refl _)) with e' | e'
    · have := congrArg neg e'; simpa only [neg_neg'] using this
    · rw [before_neg] at e'; rw [before_asymm e] at e'; cases e'
theorem Two.join2 (h : Two D A B x y) : B y = A 0 := by
  rcases h.lo.first _ (h.memB (Nat.le_refl _)) with e | e
  · exact e
  · rcases h.hi.last (neg (A 0)) (by simpa only [neg_neg'] using h.lo.mem 0 (Nat.zero_le _)) with e' | e'
    · have := congrArg neg e'; simpa only [neg_neg'] using this.symm
    · rw [before_neg] at e'; rw [before_asymm e] at e'; cases e'
/-- At the greatest point: a left turn, or all on one line. -/
theorem junction {a p b : Pt} (ha : before a p = true) (hb : before b p = true) (hp : ∀ q, D q → q = p ∨ before q p = true) (h1 : ∀ q, D q → 0 ≤ left a p q) (h2 : ∀ q, D q → 0 ≤ left p b q) (hD : D b) :
    0 < left a p b ∨ ∀ q, D q → turn (sub p a) (sub p q) = 0 := by
  rcases Int.lt_or_eq_of_le (h1 b hD) with h | h
  · exact .inl h
  · refine .inr fun q hq => ?_
    rcases hp q hq with rfl | hqp
    · simp only [turn, sub]; grind
    · have e1 : left a p q = - turn (sub p a) (sub p q) := left_eq' a p q
      have e2 : left p b q = turn (sub p b) (sub p q) := by simp only [left, turn, sub]; grind
      have e3 : left a p b = - turn (sub p a) (sub p b) := left_eq' a p b
      have k1 := h1 q hq
      have k2 := h2 q hq
      have k := turn_trans (u := sub p a) (v := sub p b) (w := sub p q) (before_iff.1 ha) (before_iff.1 hb) (before_iff.1 hqp) (by omega) (by omega)
      omega
theorem flat_left {u p : Pt} (hu : Lp u) (h : ∀ q, D q → turn u (sub p q) = 0) {a b c : Pt} (ha : D a) (hb : D b) (hc : D c) : left a b c = 0 := by
  have e1 : turn u (sub b a) = turn u (sub p a) - turn u (sub p b) := by simp only [turn, sub]; grind
  have e2 : turn u (sub c a) = turn u (sub p a) - turn u (sub p c) := by simp only [turn, sub]; grind
  exact turn_zero hu (by rw [e1, h a ha, h b hb]; rfl) (by rw [e2, h a ha, h c hc]; rfl)
theorem Two.not_flat (h : Two D A B x y) (hn : 2 < x + y) (hf : ∀ a b c, D a → D b → D c → left a b c = 0) : False := by
  by_cases hx : 1 < x
  · have := h.lo.turns 0 (by omega)
    rw [hf _ _ _ (h.lo.mem _ (by omega)) (h.lo.mem _ (by omega)) (h.lo.mem _ (by omega))] at this
    omega
  · have hy : 1 < y := by omega
    have := h.turnB (j := 0) (by omega)
    rw [hf _ _ _ (h.memB (by omega)) (h.memB (by omega)) (h.memB (by omega))] at this
    omega
theorem Two.turn1 (h : Two D A B x y) (hn : 2 < x + y) : 0 < left (A (x - 1)) (A x) (B 1) := by
  have x1 := h.x1
  have y1 := h.y1
  have e : x - 1 + 1 = x := by omega
  have hb : before (A (x - 1)) (A x) = true := h.lo.lt (by omega) (Nat.le_refl _)
  have hb' : before (B 1) (A x) = true := by rw [h.join1]; exact h.ltB (by omega) y1
  rcases junction (D := D) hb hb' h.lo.last (fun q hq => by have := h.lo.edge (x - 1) (by omega) q hq; rwa [e] at this) (fun q hq => by have := h.edgeB (j := 0) y1 hq; rwa [← h.join1] at this) (h.memB y1) with k | k
  · exact k
  · exact (h.not_flat hn fun a b c ha hb' hc => flat_left (before_iff.1 hb) k ha hb' hc).elim
theorem Two.turn2 (h : Two D A B x y) (hn : 2 < x + y) : 0 < left (B (y - 1)) (B y) (A 1) := by
  have x1 := h.x1
  have y1 := h.y1
  have e : y - 1 + 1 = y := by omega
  have hb : before (neg (B (y - 1))) (neg (B y)) = true := by rw [before_neg]; exact h.ltB (by omega) (Nat.le_refl _)
  have hb' : before (neg (A 1)) (neg (B y)) = true := by rw [before_neg, h.join2]; exact h.lo.lt (by omega) x1
  rcases junction (D := fun q => D (neg q)) hb hb' h.hi.last (fun q hq => by have := h.hi.edge (y - 1) (by omega) q hq; rwa [e] at this) (fun q hq => by have := h.lo.edge 0 x1 (neg q) hq; rw [← left_neg, neg_neg', ← h.join2] at this; exact this) (by simpa only [neg_neg'] using h.lo.mem 1 x1) with k | k
  · rwa [left_neg] at k
  · exact (h.not_flat hn fun a b c ha hb' hc => by
      have := flat_left (D := fun q => D (neg q)) (before_iff.1 hb) k (a := neg a) (b := neg b) (c := neg c) (by simpa only [neg_neg'] using ha) (by simpa only [neg_neg'] using hb') (by simpa only [neg_neg'] using hc)
      rwa [left_neg] at this).elim
/-- No point belongs to both chains but the ends. -/
theorem Two.apart (h : Two D A B x y) {i j : Nat} (hi : i < x) (hj : j < y) : A i ≠ B j := by
  intro e
  by_cases hi0 : i = 0
  · subst hi0
    have := h.ltB hj (Nat.le_refl _)
    rw [h.join2, ← e, before_irrefl] at this
    cases this
  by_cases hj0 : j = 0
  · subst hj0
    have := h.lo.lt hi (Nat.le_refl _)
    rw [h.join1, ← e, before_irrefl] at this
    cases this
  obtain ⟨i, rfl⟩ : ∃ k, i = k + 1 := ⟨i - 1, by omega⟩
  obtain ⟨j, rfl⟩ : ∃ k, j = k + 1 := ⟨j - 1, by omega⟩
  have u1 := h.lo.up i (by omega)
  have u2 := h.lo.up (i + 1) hi
  have w1 := h.ltB (i := j) (j := j + 1) (by omega) (by omega)
  have w2 := h.ltB (i := j + 1) (j := j + 1 + 1) (by omega) (by omega)
  have t1 := h.lo.turns i (by omega)
  have t2 := h.turnB (j := j) (by omega)
  have f1 := h.lo.edge i (by omega) _ (h.memB (j := j + 1 + 1) (by omega))
  have f2 := h.lo.edge (i + 1) hi _ (h.memB (j := j) (by omega))
  rw [show i + 1 + 1 = i + 2 by omega] at *
  rw [show j + 1 + 1 = j + 2 by omega] at *
  obtain ⟨p, hp⟩ : ∃ p, p = A (i + 1) := ⟨_, rfl⟩
  rw [← e] at w1 w2 t2
  rw [← hp] at u1 u2 w1 w2 t1 t2 f1 f2
  have k1 := turn_trans (u := sub p (B (j + 2))) (v := sub p (A i)) (w := sub (A (i + 2)) p) (before_iff.1 w2) (before_iff.1 u1) (before_iff.1 u2)
    (by rw [left_eq'] at f1; rw [turn_anti]; exact f1) (by rw [← left_eq]; omega)
  have k2 := turn_trans (u := sub p (B (j + 2))) (v := sub (A (i + 2)) p) (w := sub (B j) p) (before_iff.1 w2) (before_iff.1 u2) (before_iff.1 w1) k1 (by simp only [left] at f2; exact f2)
  have e2 : left (B j) p (B (j + 2)) = - turn (sub p (B (j + 2))) (sub (B j) p) := by simp only [left, turn, sub]; grind
  omega
end Go.Hull
end
section
set_option linter.unusedVariables false
namespace Go.Hull

variable {D : Pt → Prop} {A B V : Nat → Pt} {x y : Nat}

theorem Two.vA (h : Two D A B x y) (hA : ∀ i, i < x → V i = A i) (hB : ∀ j, j < y → V (x + j) = B j) {i : Nat} (hi : i ≤ x) : V (i % (x + y)) = A i := by
  have y1 := h.y1
  rw [Nat.mod_eq_of_lt (by omega)]
  by_cases hx : i = x
  · subst hx; rw [h.join1]; exact hB 0 y1
  · exact hA i (by omega)
theorem Two.vB (h : Two D A B x y) (hA : ∀ i, i < x → V i = A i) (hB : ∀ j, j < y → V (x + j) = B j) {j : Nat} (hj : j ≤ y) : V ((x + j) % (x + y)) = B j := by
  have x1 := h.x1
  by_cases hy : j = y
  · subst hy; rw [Nat.mod_self, h.join2]; exact hA 0 x1
  · rw [Nat.mod_eq_of_lt (by omega)]; exact hB j (by omega)
theorem Two.edges (h : Two D A B x y) (hA : ∀ i, i < x → V i = A i) (hB : ∀ j, j < y → V (x + j) = B j) {i : Nat} (hi : i < x + y) {q : Pt} (hq : D q) : 0 ≤ left (V i) (V ((i + 1) % (x + y))) q := by
  by_cases hx : i < x
  · rw [hA i hx, h.vA hA hB (by omega)]
    exact h.lo.edge i hx q hq
  · obtain ⟨j, rfl⟩ : ∃ j, i = x + j := ⟨i - x, by omega⟩
    rw [hB j (by omega), show x + j + 1 = x + (j + 1) by omega, h.vB hA hB (by omega)]
    exact h.edgeB (by omega) hq
theorem Two.turning (h : Two D A B x y) (hA : ∀ i, i < x → V i = A i) (hB : ∀ j, j < y → V (x + j) = B j) (hn : 2 < x + y) {i : Nat} (hi : i < x + y) : 0 < left (V i) (V ((i + 1) % (x + y))) (V ((i + 2) % (x + y))) := by
  have x1 := h.x1
  have y1 := h.y1
  by_cases hx : i < x
  · rw [hA i hx, h.vA hA hB (by omega)]
    by_cases hx2 : i + 1 < x
    · rw [h.vA hA hB (by omega)]
      exact h.lo.turns i hx2
    · have t := h.turn1 hn
      rw [show i + 2 = x + 1 by omega, h.vB hA hB (by omega), show i + 1 = x by omega, show i = x - 1 by omega]
      exact t
  · obtain ⟨j, rfl⟩ : ∃ j, i = x + j := ⟨i - x, by omega⟩
    rw [hB j (by omega), show x + j + 1 = x + (j + 1) by omega, h.vB hA hB (by omega)]
    by_cases hy2 : j + 1 < y
    · rw [show x + j + 2 = x + (j + 2) by omega, h.vB hA hB (by omega)]
      exact h.turnB hy2
    · have t := h.turn2 hn
      rw [show x + j + 2 = 1 + (x + y) by omega, Nat.add_mod_right, h.vA hA hB (by omega), show j + 1 = y by omega, show j = y - 1 by omega]
      exact t
theorem Two.apart' (h : Two D A B x y) (hA : ∀ i, i < x → V i = A i) (hB : ∀ j, j < y → V (x + j) = B j) {i k : Nat} (hik : i < k) (hk : k < x + y) : V i ≠ V k := by
  intro e
  by_cases hx : k < x
  · rw [hA i (by omega), hA k hx] at e
    have := h.lo.lt hik (by omega)
    rw [e, before_irrefl] at this
    cases this
  · obtain ⟨j, rfl⟩ : ∃ j, k = x + j := ⟨k - x, by omega⟩
    rw [hB j (by omega)] at e
    by_cases hx2 : i < x
    · rw [hA i hx2] at e
      exact h.apart hx2 (by omega) e
    · obtain ⟨j', rfl⟩ : ∃ j, i = x + j := ⟨i - x, by omega⟩
      rw [hB j' (by omega)] at e
      have := h.ltB (i := j') (j := j) (by omega) (by omega)
      rw [e, before_irrefl] at this
      cases this
theorem length_le_of_nodup {α : Type} [BEq α] [LawfulBEq α] : ∀ (xs ys : List α), xs.Nodup → (∀ a ∈ xs, a ∈ ys) → xs.length ≤ ys.length := by
  intro xs
  induction xs with
  | nil => intro ys _ _; simp
  | cons a xs ih =>
    intro ys hn hs
    have ha := hs a (by simp)
    have hn' := List.nodup_cons.1 hn
    have := ih (ys.erase a) hn'.2 fun b hb => (List.mem_erase_of_ne (fun e => hn'.1 (by rw [← e]; exact hb))).2 (hs b (by simp [hb]))
    rw [List.length_erase_of_mem ha] at this
    have hp := List.length_pos_of_mem ha
    simp only [List.length_cons]; omega
theorem nodup_of_getD {d : Pt} {xs : List Pt} (h : ∀ i k, i < k → k < xs.length → xs.getD i d ≠ xs.getD k d) : xs.Nodup := by
  rw [List.nodup_iff_pairwise_ne, List.pairwise_iff_getElem]
  intro i j hi hj hij
  have := h i j hij hj
  simpa [List.getD_eq_getElem?_getD, List.getElem?_eq_getElem hi, List.getElem?_eq_getElem hj] using this
end Go.Hull
end
section
set_option linter.unusedVariables false
namespace Go.Hull

section sort
variable (lt : Nat → Nat → Bool)

/-- One more, from the right; the list stands the other way round. -/
def insR (x : Nat) : List Nat → List Nat
  | [] => [x]
  | y :: r => if lt x y = true then y :: insR x r else x :: y :: r
theorem inner_insR : ∀ (r : List Nat) (x : Nat) (post : List Nat), inner lt r.length (r.reverse ++ x :: post) = (insR lt x r).reverse ++ post := by
  intro r
  induction r with
  | nil => intro x post; rfl
  | cons y r ih =>
    intro x post
    have e : (y :: r).reverse ++ x :: post = r.reverse ++ y :: x :: post := by simp
    have g1 : (r.reverse ++ y :: x :: post).getD (r.length + 1) 0 = x := by simp [List.getD_eq_getElem?_getD]
    have g0 : (r.reverse ++ y :: x :: post).getD r.length 0 = y := by simp [List.getD_eq_getElem?_getD]
    have s : ((r.reverse ++ y :: x :: post).set (r.length + 1) y).set r.length x = r.reverse ++ x :: y :: post := by
      rw [List.set_append_right _ _ (by simp), List.set_append_right _ _ (by simp)]
      simp [show r.length + 1 - r.length = 1 by omega]
    rw [e]
    simp only [List.length_cons, inner, g1, g0, insR]
    split
    · rw [s, ih]; simp
    · simp
theorem insR_length (x : Nat) : ∀ (r : List Nat), (insR lt x r).length = r.length + 1 := by
  intro r
  induction r with
  | nil => rfl
  | cons y r ih => simp only [insR]; split <;> simp [ih]
theorem outer_insR : ∀ (rest r : List Nat), outer lt rest.length r.length (r.reverse ++ rest) = (rest.foldl (fun r x => insR lt x r) r).reverse := by
  intro rest
  induction rest with
  | nil => intro r; simp [outer]
  | cons x rest ih =>
    intro r
    simp only [List.length_cons, outer, List.foldl_cons]
    rw [inner_insR, ← ih (insR lt x r), insR_length]
theorem insort_eq (a : Nat) (rest : List Nat) : insort lt (a :: rest) = (rest.foldl (fun r x => insR lt x r) [a]).reverse := by
  have := outer_insR lt rest [a]
  simpa [insort] using this
theorem insR_mem (x z : Nat) : ∀ (r : List Nat), z ∈ insR lt x r ↔ z = x ∨ z ∈ r := by
  intro r
  induction r with
  | nil => simp [insR]
  | cons y r ih =>
    simp only [insR]
    split
    · simp only [List.mem_cons, ih]
      constructor
      · rintro (h | h | h) <;> simp [h]
      · rintro (h | h | h) <;> simp [h]
    · simp only [List.mem_cons]
theorem fold_mem (z : Nat) : ∀ (rest r : List Nat), z ∈ rest.foldl (fun r x => insR lt x r) r ↔ z ∈ rest ∨ z ∈ r := by
  intro rest
  induction rest with
  | nil => intro r; simp
  | cons x rest ih =>
    intro r
    simp only [List.foldl_cons, ih, insR_mem, List.mem_cons]
    constructor
    · rintro (h | h | h) <;> simp [h]
    · rintro ((h | h) | h) <;> simp [h]
theorem insort_mem (z : Nat) (xs : List Nat) : z ∈ insort lt xs ↔ z ∈ xs := by
  cases xs with
  | nil => simp [insort, outer]
  | cons a rest => rw [insort_eq, List.mem_reverse, fold_mem]; simp only [List.mem_cons, List.not_mem_nil, or_false]; exact or_comm
variable (asym : ∀ a b, lt a b = true → lt b a = false) (ntrans : ∀ a b c, lt a b = false → lt b c = false → lt a c = false)

include asym ntrans in
theorem insR_sorted (x : Nat) : ∀ (r : List Nat), r.Pairwise (fun a b => lt a b = false) → (insR lt x r).Pairwise (fun a b => lt a b = false) := by
  intro r
  induction r with
  | nil => intro _; simp [insR]
  | cons y r ih =>
    intro h
    obtain ⟨h1, h2⟩ := List.pairwise_cons.1 h
    simp only [insR]
    split
    · rename_i hc
      refine List.pairwise_cons.2 ⟨fun z hz => ?_, ih h2⟩
      rcases (insR_mem lt x z r).1 hz with rfl | hz
      · exact asym _ _ hc
      · exact h1 z hz
    · rename_i hc
      have hc' : lt x y = false := by simpa using hc
      refine List.pairwise_cons.2 ⟨fun z hz => ?_, h⟩
      rcases List.mem_cons.1 hz with rfl | hz
      · exact hc'
      · exact ntrans _ _ _ hc' (h1 z hz)
include asym ntrans in
theorem fold_sorted : ∀ (rest r : List Nat), r.Pairwise (fun a b => lt a b = false) → (rest.foldl (fun r x => insR lt x r) r).Pairwise (fun a b => lt a b = false) := by
  intro rest
  induction rest with
  | nil => intro r h; exact h
  | cons x rest ih => intro r h; exact ih _ (insR_sorted lt asym ntrans x r h)
include asym ntrans in
theorem insort_sorted (xs : List Nat) : (insort lt xs).Pairwise (fun a b => lt b a = false) := by
  cases xs with
  | nil => simp [insort, outer]
  | cons a rest =>
    rw [insort_eq, List.pairwise_reverse]
    exact fold_sorted lt asym ntrans rest [a] (by simp)
end sort

section comp
variable (eq : Nat → Nat → Bool)

/-- The first one of each run that follows a. -/
def squash : Nat → List Nat → List Nat
  | _, [] => []
  | a, b :: r => if eq b a = true then squash b r else b :: squash b r
theorem compIn_take (k0 : Nat) : ∀ (rest : List Nat) (k2 k : Nat) (xs : List Nat) (a : Nat), 1 ≤ k0 + k2 → k < k0 + k2 → xs.drop (k0 + k2 - 1) = a :: rest →
    (compIn eq k0 rest.length k2 k xs).1.take (compIn eq k0 rest.length k2 k xs).2 = xs.take k ++ squash eq a rest := by
  intro rest
  induction rest with
  | nil => intro k2 k xs a _ _ _; simp [compIn, squash]
  | cons b rest ih =>
    intro k2 k xs a h1 hk hd
    have ga : xs[k0 + k2 - 1]? = some a := by
      have := congrArg (fun l => l[0]?) hd
      simpa using this
    have gb : xs[k0 + k2]? = some b := by
      have := congrArg (fun l => l[1]?) hd
      simp only [List.getElem?_drop, List.getElem?_cons_succ, List.getElem?_cons_zero] at this
      rwa [show k0 + k2 - 1 + 1 = k0 + k2 by omega] at this
    have hd' : xs.drop (k0 + k2) = b :: rest := by
      have := congrArg (List.drop 1) hd
      rw [List.drop_drop, show k0 + k2 - 1 + 1 = k0 + k2 by omega] at this
      simpa using this
    have hlen : k0 + k2 < xs.length := (List.getElem?_eq_some_iff.1 gb).1
    simp only [List.length_cons, compIn, List.getD_eq_getElem?_getD, ga, gb, Option.getD_some, squash]
    split
    · exact ih (k2 + 1) k xs b (by omega) (by omega) (by rw [show k0 + (k2 + 1) - 1 = k0 + k2 by omega]; exact hd')
    · have := ih (k2 + 1) (k + 1) (xs.set k b) b (by omega) (by omega) (by rw [show k0 + (k2 + 1) - 1 = k0 + k2 by omega, List.drop_set_of_lt (by omega)]; exact hd')
      rw [this, List.take_add_one, List.getElem?_set_self (by omega), List.take_set_of_le (by omega)]
      simp
theorem compOut_take : ∀ (rest : List Nat) (k : Nat) (xs : List Nat) (a : Nat), 1 ≤ k → xs.drop (k - 1) = a :: rest →
    (compOut eq rest.length k xs).1.take (compOut eq rest.length k xs).2 = xs.take k ++ squash eq a rest := by
  intro rest
  induction rest with
  | nil =>
    intro k xs a h1 hd
    have := congrArg List.length hd
    simp only [List.length_drop, List.length_cons, List.length_nil] at this
    simp only [List.length_nil, compOut, squash, List.append_nil]
    rw [List.take_of_length_le (Nat.le_refl _), List.take_of_length_le (by omega)]
  | cons b rest ih =>
    intro k xs a h1 hd
    have ga : xs[k - 1]? = some a := by
      have := congrArg (fun l => l[0]?) hd
      simpa using this
    have gb : xs[k]? = some b := by
      have := congrArg (fun l => l[1]?) hd
      simp only [List.getElem?_drop, List.getElem?_cons_succ, List.getElem?_cons_zero] at this
      rwa [show k - 1 + 1 = k by omega] at this
    have hd' : xs.drop k = b :: rest := by
      have := congrArg (List.drop 1) hd
      rw [List.drop_drop, show k - 1 + 1 = k by omega] at this
      simpa using this
    have hlen : k < xs.length := (List.getElem?_eq_some_iff.1 gb).1
    have hlr := congrArg List.length hd'
    simp only [List.length_drop, List.length_cons] at hlr
    simp only [List.length_cons, compOut, List.getD_eq_getElem?_getD, ga, gb, Option.getD_some, squash]
    split
    · have := compIn_take eq k rest 1 k xs b (by omega) (by omega) (by rw [show k + 1 - 1 = k by omega]; exact hd')
      rw [show xs.length - k - 1 = rest.length by omega, ← this]
      simp only [zeroed]
      have hle : (compIn eq k rest.length 1 k xs).2 ≤ (compIn eq k rest.length 1 k xs).1.length := by
        have h := compIn_spec eq (n := xs.foldl max 0 + 1) k rest.length 1 k xs (by omega) (by omega) (fun x hx => by
          have : ∀ (l : List Nat) (m : Nat), m ≤ l.foldl max m ∧ ∀ x ∈ l, x ≤ l.foldl max m := by
            intro l
            induction l with
            | nil => intro m; simp
            | cons y l ih => intro m; obtain ⟨i1, i2⟩ := ih (max m y); refine ⟨by simp only [List.foldl_cons]; omega, fun x hx => ?_⟩; rcases List.mem_cons.1 hx with rfl | hx; (· simp only [List.foldl_cons]; omega); exact i2 x hx
          have := (this xs 0).2 x hx; omega)
        omega
      rw [List.take_append_of_le_length (by rw [List.length_take]; omega), List.take_take, Nat.min_self]
    · have := ih (k + 1) xs b (by omega) (by rw [show k + 1 - 1 = k by omega]; exact hd')
      rw [this, List.take_add_one, gb]
      simp
theorem compact_take (a : Nat) (rest : List Nat) : (compact eq (a :: rest)).1.take (compact eq (a :: rest)).2 = a :: squash eq a rest := by
  unfold compact
  split
  · rename_i h
    simp only [List.length_cons] at h
    have : rest = [] := List.eq_nil_of_length_eq_zero (by omega)
    subst this
    simp [squash]
  · have := compOut_take eq rest 1 (a :: rest) a (Nat.le_refl _) rfl
    simpa using this
end comp

theorem rv_get (n : Nat) : ∀ (f i : Nat) (xs : List Nat), n ≤ xs.length → n ≤ i + f → ∀ k, (rv n f i xs)[k]? = if i ≤ k ∧ k < n - i then xs[n - 1 - k]? else xs[k]? := by
  intro f
  induction f with
  | zero => intro i xs hn hf k; simp only [rv]; rw [if_neg (by omega)]
  | succ f ih =>
    intro i xs hn hf k
    simp only [rv]
    split
    · rename_i hi
      have e1 : xs[n - 1 - i]? = some (xs.getD (n - 1 - i) 0) := by rw [List.getD_eq_getElem?_getD, List.getElem?_eq_getElem (by omega)]; rfl
      have e2 : xs[i]? = some (xs.getD i 0) := by rw [List.getD_eq_getElem?_getD, List.getElem?_eq_getElem (by omega)]; rfl
      have g : ∀ k, ((xs.set i (xs.getD (n - 1 - i) 0)).set (n - 1 - i) (xs.getD i 0))[k]? = if k = i then xs[n - 1 - i]? else if k = n - 1 - i then xs[i]? else xs[k]? := by
        intro k
        rw [List.getElem?_set, List.getElem?_set, e1, e2]
        simp only [List.length_set]
        by_cases h1 : n - 1 - i = k
        · rw [if_pos h1, if_pos (by omega), if_neg (by omega), if_pos (by omega)]
        · rw [if_neg h1]
          by_cases h2 : i = k
          · rw [if_pos h2, if_pos (by omega), if_pos (by omega)]
          · rw [if_neg h2, if_neg (by omega), if_neg (by omega)]
      rw [ih (i + 1) _ (by simp; omega) (by omega) k, g, g]
      by_cases c1 : i + 1 ≤ k ∧ k < n - (i + 1)
      · rw [if_pos c1, if_neg (by omega), if_neg (by omega), if_pos (by omega)]
      · rw [if_neg c1]
        by_cases c2 : k = i
        · rw [if_pos c2, if_pos (by omega), c2]
        · rw [if_neg c2]
          by_cases c3 : k = n - 1 - i
          · rw [if_pos c3, if_pos (by omega), c3, show n - 1 - (n - 1 - i) = i by omega]
          · rw [if_neg c3, if_neg (by omega)]
    · by_cases c : i ≤ k ∧ k < n - i
      · rw [if_pos c, show n - 1 - k = k by omega]
      · rw [if_neg c]
theorem rv_take {n : Nat} {xs : List Nat} (hn : n ≤ xs.length) : (rv n n 0 xs).take n = (xs.take n).reverse := by
  apply List.ext_getElem?
  intro k
  by_cases hk : k < n
  · rw [List.getElem?_take_of_lt hk, rv_get n n 0 xs hn (by omega), if_pos (by omega), List.getElem?_reverse (by rw [List.length_take]; omega), List.getElem?_take_of_lt (by rw [List.length_take]; omega), List.length_take, Nat.min_eq_left hn]
  · rw [List.getElem?_eq_none (by rw [List.length_take, rv_length]; omega), List.getElem?_eq_none (by rw [List.length_reverse, List.length_take]; omega)]
end Go.Hull
end
section
set_option linter.unusedSimpArgs false
set_option linter.unusedVariables false
set_option maxHeartbeats 2000000
namespace Go.Hull
open Go Go.Am Go.Proofs

def ixV (v : List Nat) : AV := .sv false 1 (ix v)
theorem flat_ixV (v : List Nat) (i : Nat) : flatN true (i + 3) (ixV v) = true := by
  unfold ixV
  simp only [flatN]
  induction v with
  | nil => rfl
  | cons n v ih => exact ih
def leastI (v : List Nat) : Nat := (v.drop 1).foldl min (v.getD 0 0)
def mostI (v : List Nat) : Nat := (v.drop 1).foldl max (v.getD 0 0)
theorem foldl_drop_take {α : Type} (f : Nat → Nat → Nat) (v : List Nat) (i : Nat) (a : Nat) (h1 : 1 ≤ i) (h : i < v.length) : ((v.take (i + 1)).drop 1).foldl f a = f (((v.take i).drop 1).foldl f a) (v.getD i 0) := by
  rw [List.take_add_one, List.getElem?_eq_getElem h, Option.toList_some, List.drop_append_of_le_length (by simp; omega), List.foldl_append]
  simp [List.getD_eq_getElem?_getD, List.getElem?_eq_getElem h]
theorem lt_ixV (m : Nat) (v : List Nat) : (ixV v).lt m = true := by simp only [ixV, AV.lt, ltL_ix]
theorem c34 (v : List Nat) (hv : 0 < v.length) (hn : v.length < 4611686018427387904) : CallsF Try.prog 34 [ixV v] [] (.int .i64 (leastI v : Int)) [] := by
  have h1 : ¬ ((v.length : Int) < 1) := by omega
  have h0 : (0 : Int) < (v.length : Int) := by omega
  refine callsF_cwx hm hf34 (by simp [cf34]) ?_
  simp only [cf34, argsAl]
  unfold ixV
  refine CWx.r fun K hK => ?_
  simp (maxSteps := 4000000) only [amC, amX, dr3, dr4, AV.elem, AV.cells, AV.one, loadAV, faddrAV, binAV, storeAV, AV.putCells, AV.ref, if_true, if_false, Nat.reduceEqDiff, Nat.reduceAdd, Nat.reduceLT, Nat.reduceLeDiff, reduceCtorEq, ↓reduceIte, pickAV, lenAV, intAV, slcA, slcAV, iaddrAV, extAV, fldAV, eqCell, contAV, appendAV, maxI, minI, Option.some.injEq, catT]
  refine hK _ _ _ nofun ?_
  clear hK K
  refine CWx.seq ?_
  refine CWx.r fun K hK => ?_
  simp (maxSteps := 4000000) only [amC, amX, dr3, dr4, AV.elem, AV.cells, AV.one, loadAV, faddrAV, binAV, storeAV, AV.putCells, AV.ref, if_true, if_false, Nat.reduceEqDiff, Nat.reduceAdd, Nat.reduceLT, Nat.reduceLeDiff, reduceCtorEq, ↓reduceIte, pickAV, lenAV, intAV, slcA, slcAV, iaddrAV, extAV, fldAV, eqCell, contAV, appendAV, maxI, minI, Option.some.injEq, catT, ix_length, h1]
  refine hK _ _ _ nofun ?_
  clear hK K
  refine CWx.condF rfl (CWx.skip (CWx.go ?_))
  refine CWx.r fun K hK => ?_
  simp (maxSteps := 4000000) only [amC, amX, dr3, dr4, AV.elem, AV.cells, AV.one, loadAV, faddrAV, binAV, storeAV, AV.putCells, AV.ref, if_true, if_false, Nat.reduceEqDiff, Nat.reduceAdd, Nat.reduceLT, Nat.reduceLeDiff, reduceCtorEq, ↓reduceIte, pickAV, lenAV, intAV, slcA, slcAV, iaddrAV, extAV, fldAV, eqCell, contAV, appendAV, maxI, minI, Option.some.injEq, catT, ix_length, h0, Int.le_refl, Int.toNat_zero, ix_get v hv, AV.cells]
  refine hK _ _ _ nofun ?_
  clear hK K
  refine CWx.seq ?_
  refine CWx.r fun K hK => ?_
  simp (maxSteps := 4000000) only [amC, amX, dr3, dr4, AV.elem, AV.cells, AV.one, loadAV, faddrAV, binAV, storeAV, AV.putCells, AV.ref, if_true, if_false, Nat.reduceEqDiff, Nat.reduceAdd, Nat.reduceLT, Nat.reduceLeDiff, reduceCtorEq, ↓reduceIte, pickAV, lenAV, intAV, slcA, slcAV, iaddrAV, extAV, fldAV, eqCell, contAV, appendAV, maxI, minI, Option.some.injEq, catT]
  refine hK _ _ _ nofun ?_
  clear hK K
  refine CWx.block ?_
  refine CWx.loopF (fun i : Nat => v.length - i) (fun i => ⟨[(0, ixV v), (3, .int .i64 (((((v.take i).drop 1).foldl min (v.getD 0 0)) : Nat) : Int)), (4, .int .i64 (i : Int))], []⟩)
    (fun i => 1 ≤ i ∧ i ≤ v.length) (fun i hi => ?_) 1 ⟨Nat.le_refl _, hv⟩ (Fgt.mk' 1 (by simp) (by simp [keepB, Am.get, AV.lt, ltL, ltL_ix, ixV]) rfl trivial)

  refine CWx.seq ?_
  by_cases h : (i : Int) < (v.length : Int)
  · unfold ixV
    refine CWx.r fun K hK => ?_
    simp (maxSteps := 4000000) only [amC, amX, dr3, dr4, AV.elem, AV.cells, AV.one, loadAV, faddrAV, binAV, storeAV, AV.putCells, AV.ref, if_true, if_false, Nat.reduceEqDiff, Nat.reduceAdd, Nat.reduceLT, Nat.reduceLeDiff, reduceCtorEq, ↓reduceIte, pickAV, lenAV, intAV, slcA, slcAV, iaddrAV, extAV, fldAV, eqCell, contAV, appendAV, maxI, minI, Option.some.injEq, catT, ix_length, h]
    refine hK _ _ _ nofun ?_
    clear hK K
    refine CWx.condT rfl (CWx.skip (CWx.go ?_))
    refine CWx.seq ?_
    refine CWx.block ?_
    refine CWx.e fun K hK => ?_
    simp (maxSteps := 4000000) only [amC, amX, dr3, dr4, AV.elem, AV.cells, AV.one, loadAV, faddrAV, binAV, storeAV, AV.putCells, AV.ref, if_true, if_false, Nat.reduceEqDiff, Nat.reduceAdd, Nat.reduceLT, Nat.reduceLeDiff, reduceCtorEq, ↓reduceIte, pickAV, lenAV, intAV, slcA, slcAV, iaddrAV, extAV, fldAV, eqCell, contAV, appendAV, maxI, minI, Option.some.injEq, catT, ix_length, h, Int.natCast_nonneg, Int.toNat_natCast, ix_get v (show i < v.length by omega), AV.cells]
    refine hK _ _ _ nofun ?_
    clear hK K
    refine CWx.go ?_
    refine CWx.e fun K hK => ?_
    simp (maxSteps := 4000000) only [amC, amX, dr3, dr4, AV.elem, AV.cells, AV.one, loadAV, faddrAV, binAV, storeAV, AV.putCells, AV.ref, if_true, if_false, Nat.reduceEqDiff, Nat.reduceAdd, Nat.reduceLT, Nat.reduceLeDiff, reduceCtorEq, ↓reduceIte, pickAV, lenAV, intAV, slcA, slcAV, iaddrAV, extAV, fldAV, eqCell, contAV, appendAV, maxI, minI, Option.some.injEq, catT, wrap_nat i (by omega)]
    refine hK _ _ _ nofun ?_
    clear hK K
    intro al hal
    refine ⟨i + 1, by omega, ⟨by omega, by omega⟩, Fgt.ofx hal (Fgt.mk' 1 (by simp) ?_ rfl trivial)⟩
    rw [foldl_drop_take (α := Nat) min v i _ (by omega) (by omega)]
    simp [keepB, Am.get, AV.lt, ltL, ltL_ix, ixV]
    split <;> omega
  · unfold ixV
    refine CWx.r fun K hK => ?_
    simp (maxSteps := 4000000) only [amC, amX, dr3, dr4, AV.elem, AV.cells, AV.one, loadAV, faddrAV, binAV, storeAV, AV.putCells, AV.ref, if_true, if_false, Nat.reduceEqDiff, Nat.reduceAdd, Nat.reduceLT, Nat.reduceLeDiff, reduceCtorEq, ↓reduceIte, pickAV, lenAV, intAV, slcA, slcAV, iaddrAV, extAV, fldAV, eqCell, contAV, appendAV, maxI, minI, Option.some.injEq, catT, ix_length, h]
    refine hK _ _ _ nofun ?_
    clear hK K
    refine CWx.condF rfl (CWx.exit (CWx.go ?_))
    refine CWx.r fun K hK => ?_
    simp (maxSteps := 4000000) only [amC, amX, dr3, dr4, AV.elem, AV.cells, AV.one, loadAV, faddrAV, binAV, storeAV, AV.putCells, AV.ref, if_true, if_false, Nat.reduceEqDiff, Nat.reduceAdd, Nat.reduceLT, Nat.reduceLeDiff, reduceCtorEq, ↓reduceIte, pickAV, lenAV, intAV, slcA, slcAV, iaddrAV, extAV, fldAV, eqCell, contAV, appendAV, maxI, minI, Option.some.injEq, catT]
    refine hK _ _ _ nofun ?_
    clear hK K
    have hiv : i = v.length := by omega
    subst hiv
    exact CWx.ret fun al hal => finK_ext hal (finK_pure (.inr rfl) (xs := [.int .i64 (leastI v : Int)]) (by simp [resRV, Am.get, leastI, List.take_length]) rfl rfl)
theorem c35 (v : List Nat) (hv : 0 < v.length) (hn : v.length < 4611686018427387904) : CallsF Try.prog 35 [ixV v] [] (.int .i64 (mostI v : Int)) [] := by
  have h1 : ¬ ((v.length : Int) < 1) := by omega
  have h0 : (0 : Int) < (v.length : Int) := by omega
  refine callsF_cwx hm hf35 (by simp [cf35]) ?_
  simp only [cf35, argsAl]
  unfold ixV
  refine CWx.r fun K hK => ?_
  simp (maxSteps := 4000000) only [amC, amX, dr3, dr4, AV.elem, AV.cells, AV.one, loadAV, faddrAV, binAV, storeAV, AV.putCells, AV.ref, if_true, if_false, Nat.reduceEqDiff, Nat.reduceAdd, Nat.reduceLT, Nat.reduceLeDiff, reduceCtorEq, ↓reduceIte, pickAV, lenAV, intAV, slcA, slcAV, iaddrAV, extAV, fldAV, eqCell, contAV, appendAV, maxI, minI, Option.some.injEq, catT]
  refine hK _ _ _ nofun ?_
  clear hK K
  refine CWx.seq ?_
  refine CWx.r fun K hK => ?_
  simp (maxSteps := 4000000) only [amC, amX, dr3, dr4, AV.elem, AV.cells, AV.one, loadAV, faddrAV, binAV, storeAV, AV.putCells, AV.ref, if_true, if_false, Nat.reduceEqDiff, Nat.reduceAdd, Nat.reduceLT, Nat.reduceLeDiff, reduceCtorEq, ↓reduceIte, pickAV, lenAV, intAV, slcA, slcAV, iaddrAV, extAV, fldAV, eqCell, contAV, appendAV, maxI, minI, Option.some.injEq, catT, ix_length, h1]
  refine hK _ _ _ nofun ?_
  clear hK K
  refine CWx.condF rfl (CWx.skip (CWx.go ?_))
  refine CWx.r fun K hK => ?_
  simp (maxSteps := 4000000) only [amC, amX, dr3, dr4, AV.elem, AV.cells, AV.one, loadAV, faddrAV, binAV, storeAV, AV.putCells, AV.ref, if_true, if_false, Nat.reduceEqDiff, Nat.reduceAdd, Nat.reduceLT, Nat.reduceLeDiff, reduceCtorEq, ↓reduceIte, pickAV, lenAV, intAV, slcA, slcAV, iaddrAV, extAV, fldAV, eqCell, contAV, appendAV, maxI, minI, Option.some.injEq, catT, ix_length, h0, Int.le_refl, Int.toNat_zero, ix_get v hv, AV.cells]
  refine hK _ _ _ nofun ?_
  clear hK K
  refine CWx.seq ?_
  refine CWx.r fun K hK => ?_
  simp (maxSteps := 4000000) only [amC, amX, dr3, dr4, AV.elem, AV.cells, AV.one, loadAV, faddrAV, binAV, storeAV, AV.putCells, AV.ref, if_true, if_false, Nat.reduceEqDiff, Nat.reduceAdd, Nat.reduceLT, Nat.reduceLeDiff, reduceCtorEq, ↓reduceIte, pickAV, lenAV, intAV, slcA, slcAV, iaddrAV, extAV, fldAV, eqCell, contAV, appendAV, maxI, minI, Option.some.injEq, catT]
  refine hK _ _ _ nofun ?_
  clear hK K
  refine CWx.block ?_
  refine CWx.loopF (fun i : Nat => v.length - i) (fun i => ⟨[(0, ixV v), (3, .int .i64 (((((v.take i).drop 1).foldl max (v.getD 0 0)) : Nat) : Int)), (4, .int .i64 (i : Int))], []⟩)
    (fun i => 1 ≤ i ∧ i ≤ v.length) (fun i hi => ?_) 1 ⟨Nat.le_refl _, hv⟩ (Fgt.mk' 1 (by simp) (by simp [keepB, Am.get, AV.lt, ltL, ltL_ix, ixV]) rfl trivial)

  refine CWx.seq ?_
  by_cases h : (i : Int) < (v.length : Int)
  · unfold ixV
    refine CWx.r fun K hK => ?_
    simp (maxSteps := 4000000) only [amC, amX, dr3, dr4, AV.elem, AV.cells, AV.one, loadAV, faddrAV, binAV, storeAV, AV.putCells, AV.ref, if_true, if_false, Nat.reduceEqDiff, Nat.reduceAdd, Nat.reduceLT, Nat.reduceLeDiff, reduceCtorEq, ↓reduceIte, pickAV, lenAV, intAV, slcA, slcAV, iaddrAV, extAV, fldAV, eqCell, contAV, appendAV, maxI, minI, Option.some.injEq, catT, ix_length, h]
    refine hK _ _ _ nofun ?_
    clear hK K
    refine CWx.condT rfl (CWx.skip (CWx.go ?_))
    refine CWx.seq ?_
    refine CWx.block ?_
    refine CWx.e fun K hK => ?_
    simp (maxSteps := 4000000) only [amC, amX, dr3, dr4, AV.elem, AV.cells, AV.one, loadAV, faddrAV, binAV, storeAV, AV.putCells, AV.ref, if_true, if_false, Nat.reduceEqDiff, Nat.reduceAdd, Nat.reduceLT, Nat.reduceLeDiff, reduceCtorEq, ↓reduceIte, pickAV, lenAV, intAV, slcA, slcAV, iaddrAV, extAV, fldAV, eqCell, contAV, appendAV, maxI, minI, Option.some.injEq, catT, ix_length, h, Int.natCast_nonneg, Int.toNat_natCast, ix_get v (show i < v.length by omega), AV.cells]
    refine hK _ _ _ nofun ?_
    clear hK K
    refine CWx.go ?_
    refine CWx.e fun K hK => ?_
    simp (maxSteps := 4000000) only [amC, amX, dr3, dr4, AV.elem, AV.cells, AV.one, loadAV, faddrAV, binAV, storeAV, AV.putCells, AV.ref, if_true, if_false, Nat.reduceEqDiff, Nat.reduceAdd, Nat.reduceLT, Nat.reduceLeDiff, reduceCtorEq, ↓reduceIte, pickAV, lenAV, intAV, slcA, slcAV, iaddrAV, extAV, fldAV, eqCell, contAV, appendAV, maxI, minI, Option.some.injEq, catT, wrap_nat i (by omega)]
    refine hK _ _ _ nofun ?_
    clear hK K
    intro al hal
    refine ⟨i + 1, by omega, ⟨by omega, by omega⟩, Fgt.ofx hal (Fgt.mk' 1 (by simp) ?_ rfl trivial)⟩
    rw [foldl_drop_take (α := Nat) max v i _ (by omega) (by omega)]
    simp [keepB, Am.get, AV.lt, ltL, ltL_ix, ixV]
    split <;> omega
  · unfold ixV
    refine CWx.r fun K hK => ?_
    simp (maxSteps := 4000000) only [amC, amX, dr3, dr4, AV.elem, AV.cells, AV.one, loadAV, faddrAV, binAV, storeAV, AV.putCells, AV.ref, if_true, if_false, Nat.reduceEqDiff, Nat.reduceAdd, Nat.reduceLT, Nat.reduceLeDiff, reduceCtorEq, ↓reduceIte, pickAV, lenAV, intAV, slcA, slcAV, iaddrAV, extAV, fldAV, eqCell, contAV, appendAV, maxI, minI, Option.some.injEq, catT, ix_length, h]
    refine hK _ _ _ nofun ?_
    clear hK K
    refine CWx.condF rfl (CWx.exit (CWx.go ?_))
    refine CWx.r fun K hK => ?_
    simp (maxSteps := 4000000) only [amC, amX, dr3, dr4, AV.elem, AV.cells, AV.one, loadAV, faddrAV, binAV, storeAV, AV.putCells, AV.ref, if_true, if_false, Nat.reduceEqDiff, Nat.reduceAdd, Nat.reduceLT, Nat.reduceLeDiff, reduceCtorEq, ↓reduceIte, pickAV, lenAV, intAV, slcA, slcAV, iaddrAV, extAV, fldAV, eqCell, contAV, appendAV, maxI, minI, Option.some.injEq, catT]
    refine hK _ _ _ nofun ?_
    clear hK K
    have hiv : i = v.length := by omega
    subst hiv
    exact CWx.ret fun al hal => finK_ext hal (finK_pure (.inr rfl) (xs := [.int .i64 (mostI v : Int)]) (by simp [resRV, Am.get, mostI, List.take_length]) rfl rfl)
theorem c13 (l : List Pt) (hl : 0 < l.length) (hn : l.length < 20) (hok : l.all okP = true) :
    ∃ (zs : List Nat), zs.take (hullI l).length = hullI l ∧ (hullI l).length ≤ zs.length ∧ CallsF Try.prog 13 [pts l] [] (.tup [.sl 0 0 0 (hullI l).length, .int .i64 0]) [.row false 0 false 1 (ix zs)] := by
  obtain ⟨zs, z1, z2, z3⟩ := c51 l hl hn hok
  refine ⟨zs, z1, z2, ?_⟩
  have hchk : chk l = 0 := by unfold chk; rw [if_neg (by omega), if_pos hok]
  have k50 := c50 l (by omega)
  rw [hchk] at k50
  have h0 : ((l.length : Int) == 0) = false := beq_eq_false_iff_ne.2 (by omega)
  refine callsF_cwx hm hf13 (by simp [cf13]) ?_
  simp only [cf13, argsAl]
  refine CWx.r fun K hK => ?_
  simp (maxSteps := 4000000) only [amC, amX, dr3, dr4, AV.elem, AV.cells, AV.one, loadAV, faddrAV, binAV, storeAV, AV.putCells, AV.ref, if_true, if_false, Nat.reduceEqDiff, Nat.reduceAdd, Nat.reduceLT, Nat.reduceLeDiff, reduceCtorEq, ↓reduceIte, pickAV, lenAV, intAV, slcA, slcAV, iaddrAV, extAV, fldAV, eqCell, contAV, appendAV, maxI, minI, Option.some.injEq, catT]
  refine hK _ _ _ nofun ?_
  clear hK K
  refine CWx.seq ?_
  refine CWx.r fun K hK => ?_
  simp (maxSteps := 4000000) only [amC, amX, dr3, dr4, AV.elem, AV.cells, AV.one, loadAV, faddrAV, binAV, storeAV, AV.putCells, AV.ref, if_true, if_false, Nat.reduceEqDiff, Nat.reduceAdd, Nat.reduceLT, Nat.reduceLeDiff, reduceCtorEq, ↓reduceIte, pickAV, lenAV, intAV, slcA, slcAV, iaddrAV, extAV, fldAV, eqCell, contAV, appendAV, maxI, minI, Option.some.injEq, catT]
  refine RCx.view (fid := 50) (caps := []) rfl rfl (viewArgs_flat1 (flat_pts l 2)) k50 rfl ?_
  simp (maxSteps := 4000000) only [amC, amX, dr3, dr4, AV.elem, AV.cells, AV.one, loadAV, faddrAV, binAV, storeAV, AV.putCells, AV.ref, if_true, if_false, Nat.reduceEqDiff, Nat.reduceAdd, Nat.reduceLT, Nat.reduceLeDiff, reduceCtorEq, ↓reduceIte, pickAV, lenAV, intAV, slcA, slcAV, iaddrAV, extAV, fldAV, eqCell, contAV, appendAV, maxI, minI, Option.some.injEq, catT]
  refine hK _ _ _ nofun ?_
  clear hK K
  refine CWx.r fun K hK => ?_
  simp (maxSteps := 4000000) only [amC, amX, dr3, dr4, AV.elem, AV.cells, AV.one, loadAV, faddrAV, binAV, storeAV, AV.putCells, AV.ref, if_true, if_false, Nat.reduceEqDiff, Nat.reduceAdd, Nat.reduceLT, Nat.reduceLeDiff, reduceCtorEq, ↓reduceIte, pickAV, lenAV, intAV, slcA, slcAV, iaddrAV, extAV, fldAV, eqCell, contAV, appendAV, maxI, minI, Option.some.injEq, catT, show ((0 : Int) != 0) = false from rfl]
  refine hK _ _ _ nofun ?_
  clear hK K
  refine CWx.condF rfl (CWx.skip (CWx.go ?_))
  refine CWx.seq ?_
  unfold pts
  refine CWx.r fun K hK => ?_
  simp (maxSteps := 4000000) only [amC, amX, dr3, dr4, AV.elem, AV.cells, AV.one, loadAV, faddrAV, binAV, storeAV, AV.putCells, AV.ref, if_true, if_false, Nat.reduceEqDiff, Nat.reduceAdd, Nat.reduceLT, Nat.reduceLeDiff, reduceCtorEq, ↓reduceIte, pickAV, lenAV, intAV, slcA, slcAV, iaddrAV, extAV, fldAV, eqCell, contAV, appendAV, maxI, minI, Option.some.injEq, catT, List.length_map, h0]
  refine hK _ _ _ nofun ?_
  clear hK K
  refine CWx.condF rfl (CWx.skip (CWx.go ?_))
  refine CWx.r fun K hK => ?_
  simp (maxSteps := 4000000) only [amC, amX, dr3, dr4, AV.elem, AV.cells, AV.one, loadAV, faddrAV, binAV, storeAV, AV.putCells, AV.ref, if_true, if_false, Nat.reduceEqDiff, Nat.reduceAdd, Nat.reduceLT, Nat.reduceLeDiff, reduceCtorEq, ↓reduceIte, pickAV, lenAV, intAV, slcA, slcAV, iaddrAV, extAV, fldAV, eqCell, contAV, appendAV, maxI, minI, Option.some.injEq, catT]
  refine RCx.viewR (fid := 51) (caps := []) rfl rfl (viewArgs_flat1 (flat_pts l 2)) z3 (by simp [AV.clean, cleanL, Blk.clean, cleanL_ix]) ?_
  simp (maxSteps := 4000000) only [amC, amX, dr3, dr4, AV.elem, AV.cells, AV.one, loadAV, faddrAV, binAV, storeAV, AV.putCells, AV.ref, if_true, if_false, Nat.reduceEqDiff, Nat.reduceAdd, Nat.reduceLT, Nat.reduceLeDiff, reduceCtorEq, ↓reduceIte, pickAV, lenAV, intAV, slcA, slcAV, iaddrAV, extAV, fldAV, eqCell, contAV, appendAV, maxI, minI, Option.some.injEq, catT, AV.ren, renL, Blk.ren, renL_id (ix zs) (ltL_ix _ _)]
  refine hK _ _ _ nofun ?_
  clear hK K
  refine CWx.ret fun al hal => finK_ext hal (finK_new (.inr rfl) (xs := [.sl 1 0 0 (hullI l).length, .int .i64 0]) (b := 1) (g := 0) (nil := false) (ys := ix zs) (by simp [resRV, Am.get]) rfl (allRL_ix _ _ _) ?_ ?_)
  · simp [tupAV, AV.allR, allRL, sigP]
  · simp [tupAV, AV.mapR, mapRL, sigF]
end Go.Hull
end
section
namespace Go.Hull.Aw
open Go Go.Am Go.Proofs

def nm (f : Nat) : Bool := natIn f [87, 104, 114, 127, 84, 64, 99, 67, 93, 109, 116]
def tb : AV := .sv false 2 [.agg [.int .i64 0, .int .i64 0], .agg [.int .i64 4, .int .i64 0], .agg [.int .i64 2, .int .i64 1], .agg [.int .i64 4, .int .i64 4], .agg [.int .i64 0, .int .i64 4], .agg [.int .i64 2, .int .i64 0]]
def ms0 : List Memo := []
theorem ok0 : MemoOk Try.prog ms0 := memoOk_nil
theorem x_check : CallsF Try.prog 50 [tb] [] (.int .i64 0) [] := xFm_sound hm tOk ok0 20 _ _ _ _ _ (by kernel_rfl : xFm nm T ms0 1000 20 50 [tb] [] = some (.int .i64 0, []))
def ms1 : List Memo := ⟨50, [tb], .int .i64 0, []⟩ :: ms0
theorem ok1 : MemoOk Try.prog ms1 := memoOk_cons x_check ok0
theorem x_order : CallsF Try.prog 83 [tb] [] (.tup [.sl 0 0 0 6, .int .i64 0]) [.row false 0 false 1 [.int .i64 0, .int .i64 4, .int .i64 5, .int .i64 2, .int .i64 1, .int .i64 3]] := xFm_sound hm tOk ok1 20 _ _ _ _ _ (by kernel_rfl : xFm nm T ms1 1000 20 83 [tb] [] = some (.tup [.sl 0 0 0 6, .int .i64 0], [.row false 0 false 1 [.int .i64 0, .int .i64 4, .int .i64 5, .int .i64 2, .int .i64 1, .int .i64 3]]))
def ms2 : List Memo := ⟨83, [tb], .tup [.sl 0 0 0 6, .int .i64 0], [.row false 0 false 1 [.int .i64 0, .int .i64 4, .int .i64 5, .int .i64 2, .int .i64 1, .int .i64 3]]⟩ :: ms1
theorem ok2 : MemoOk Try.prog ms2 := memoOk_cons x_order ok1
theorem x_around : CallsF Try.prog 51 [tb] [] (.sl 0 0 0 4) [.row false 0 false 1 [.int .i64 0, .int .i64 1, .int .i64 3, .int .i64 4]] := xFm_sound hm tOk ok2 20 _ _ _ _ _ (by kernel_rfl : xFm nm T ms2 1000 20 51 [tb] [] = some (.sl 0 0 0 4, [.row false 0 false 1 [.int .i64 0, .int .i64 1, .int .i64 3, .int .i64 4]]))
def ms3 : List Memo := ⟨51, [tb], .sl 0 0 0 4, [.row false 0 false 1 [.int .i64 0, .int .i64 1, .int .i64 3, .int .i64 4]]⟩ :: ms2
theorem ok3 : MemoOk Try.prog ms3 := memoOk_cons x_around ok2
theorem x_hull : CallsF Try.prog 13 [tb] [] (.tup [.sl 0 0 0 4, .int .i64 0]) [.row false 0 false 1 [.int .i64 0, .int .i64 1, .int .i64 3, .int .i64 4]] := xFm_sound hm tOk ok3 20 _ _ _ _ _ (by kernel_rfl : xFm nm T ms3 1000 20 13 [tb] [] = some (.tup [.sl 0 0 0 4, .int .i64 0], [.row false 0 false 1 [.int .i64 0, .int .i64 1, .int .i64 3, .int .i64 4]]))
def ms4 : List Memo := ⟨13, [tb], .tup [.sl 0 0 0 4, .int .i64 0], [.row false 0 false 1 [.int .i64 0, .int .i64 1, .int .i64 3, .int .i64 4]]⟩ :: ms3
theorem ok4 : MemoOk Try.prog ms4 := memoOk_cons x_hull ok3
theorem x_in : CallsF Try.prog 15 [tb, .agg [.int .i64 2, .int .i64 1]] [] (.tup [.int .i64 1, .int .i64 0]) [] := xFm_sound hm tOk ok4 20 _ _ _ _ _ (by kernel_rfl : xFm nm T ms4 1000 20 15 [tb, .agg [.int .i64 2, .int .i64 1]] [] = some (.tup [.int .i64 1, .int .i64 0], []))
def ms5 : List Memo := ⟨15, [tb, .agg [.int .i64 2, .int .i64 1]], .tup [.int .i64 1, .int .i64 0], []⟩ :: ms4
theorem ok5 : MemoOk Try.prog ms5 := memoOk_cons x_in ok4
theorem x_on : CallsF Try.prog 15 [tb, .agg [.int .i64 2, .int .i64 0]] [] (.tup [.int .i64 0, .int .i64 0]) [] := xFm_sound hm tOk ok5 20 _ _ _ _ _ (by kernel_rfl : xFm nm T ms5 1000 20 15 [tb, .agg [.int .i64 2, .int .i64 0]] [] = some (.tup [.int .i64 0, .int .i64 0], []))
def ms6 : List Memo := ⟨15, [tb, .agg [.int .i64 2, .int .i64 0]], .tup [.int .i64 0, .int .i64 0], []⟩ :: ms5
theorem ok6 : MemoOk Try.prog ms6 := memoOk_cons x_on ok5
theorem x_ext : CallsF Try.prog 17 [tb, .agg [.int .i64 1, .int .i64 0]] [] (.tup [.sl 0 0 0 2, .int .i64 0]) [.row false 0 false 1 [.int .i64 1, .int .i64 3]] := xFm_sound hm tOk ok6 20 _ _ _ _ _ (by kernel_rfl : xFm nm T ms6 1000 20 17 [tb, .agg [.int .i64 1, .int .i64 0]] [] = some (.tup [.sl 0 0 0 2, .int .i64 0], [.row false 0 false 1 [.int .i64 1, .int .i64 3]]))
def ms7 : List Memo := ⟨17, [tb, .agg [.int .i64 1, .int .i64 0]], .tup [.sl 0 0 0 2, .int .i64 0], [.row false 0 false 1 [.int .i64 1, .int .i64 3]]⟩ :: ms6
theorem ok7 : MemoOk Try.prog ms7 := memoOk_cons x_ext ok6
theorem x_opp01 : CallsF Try.prog 65 [.sv false 2 [.agg [.int .i64 0, .int .i64 0], .agg [.int .i64 4, .int .i64 0], .agg [.int .i64 4, .int .i64 4], .agg [.int .i64 0, .int .i64 4]], .agg [.int .i64 0, .int .i64 0], .agg [.int .i64 4, .int .i64 0]] [] (.bool true) [] := xFm_sound hm tOk ok7 20 _ _ _ _ _ (by kernel_rfl : xFm nm T ms7 1000 20 65 [.sv false 2 [.agg [.int .i64 0, .int .i64 0], .agg [.int .i64 4, .int .i64 0], .agg [.int .i64 4, .int .i64 4], .agg [.int .i64 0, .int .i64 4]], .agg [.int .i64 0, .int .i64 0], .agg [.int .i64 4, .int .i64 0]] [] = some (.bool true, []))
def ms8 : List Memo := ⟨65, [.sv false 2 [.agg [.int .i64 0, .int .i64 0], .agg [.int .i64 4, .int .i64 0], .agg [.int .i64 4, .int .i64 4], .agg [.int .i64 0, .int .i64 4]], .agg [.int .i64 0, .int .i64 0], .agg [.int .i64 4, .int .i64 0]], .bool true, []⟩ :: ms7
theorem ok8 : MemoOk Try.prog ms8 := memoOk_cons x_opp01 ok7
theorem x_opp02 : CallsF Try.prog 65 [.sv false 2 [.agg [.int .i64 0, .int .i64 0], .agg [.int .i64 4, .int .i64 0], .agg [.int .i64 4, .int .i64 4], .agg [.int .i64 0, .int .i64 4]], .agg [.int .i64 0, .int .i64 0], .agg [.int .i64 4, .int .i64 4]] [] (.bool true) [] := xFm_sound hm tOk ok8 20 _ _ _ _ _ (by kernel_rfl : xFm nm T ms8 1000 20 65 [.sv false 2 [.agg [.int .i64 0, .int .i64 0], .agg [.int .i64 4, .int .i64 0], .agg [.int .i64 4, .int .i64 4], .agg [.int .i64 0, .int .i64 4]], .agg [.int .i64 0, .int .i64 0], .agg [.int .i64 4, .int .i64 4]] [] = some (.bool true, []))
def ms9 : List Memo := ⟨65, [.sv false 2 [.agg [.int .i64 0, .int .i64 0], .agg [.int .i64 4, .int .i64 0], .agg [.int .i64 4, .int .i64 4], .agg [.int .i64 0, .int .i64 4]], .agg [.int .i64 0, .int .i64 0], .agg [.int .i64 4, .int .i64 4]], .bool true, []⟩ :: ms8
theorem ok9 : MemoOk Try.prog ms9 := memoOk_cons x_opp02 ok8
theorem x_opp03 : CallsF Try.prog 65 [.sv false 2 [.agg [.int .i64 0, .int .i64 0], .agg [.int .i64 4, .int .i64 0], .agg [.int .i64 4, .int .i64 4], .agg [.int .i64 0, .int .i64 4]], .agg [.int .i64 0, .int .i64 0], .agg [.int .i64 0, .int .i64 4]] [] (.bool true) [] := xFm_sound hm tOk ok9 20 _ _ _ _ _ (by kernel_rfl : xFm nm T ms9 1000 20 65 [.sv false 2 [.agg [.int .i64 0, .int .i64 0], .agg [.int .i64 4, .int .i64 0], .agg [.int .i64 4, .int .i64 4], .agg [.int .i64 0, .int .i64 4]], .agg [.int .i64 0, .int .i64 0], .agg [.int .i64 0, .int .i64 4]] [] = some (.bool true, []))
def ms10 : List Memo := ⟨65, [.sv false 2 [.agg [.int .i64 0, .int .i64 0], .agg [.int .i64 4, .int .i64 0], .agg [.int .i64 4, .int .i64 4], .agg [.int .i64 0, .int .i64 4]], .agg [.int .i64 0, .int .i64 0], .agg [.int .i64 0, .int .i64 4]], .bool true, []⟩ :: ms9
theorem ok10 : MemoOk Try.prog ms10 := memoOk_cons x_opp03 ok9
theorem x_opp12 : CallsF Try.prog 65 [.sv false 2 [.agg [.int .i64 0, .int .i64 0], .agg [.int .i64 4, .int .i64 0], .agg [.int .i64 4, .int .i64 4], .agg [.int .i64 0, .int .i64 4]], .agg [.int .i64 4, .int .i64 0], .agg [.int .i64 4, .int .i64 4]] [] (.bool true) [] := xFm_sound hm tOk ok10 20 _ _ _ _ _ (by kernel_rfl : xFm nm T ms10 1000 20 65 [.sv false 2 [.agg [.int .i64 0, .int .i64 0], .agg [.int .i64 4, .int .i64 0], .agg [.int .i64 4, .int .i64 4], .agg [.int .i64 0, .int .i64 4]], .agg [.int .i64 4, .int .i64 0], .agg [.int .i64 4, .int .i64 4]] [] = some (.bool true, []))
def ms11 : List Memo := ⟨65, [.sv false 2 [.agg [.int .i64 0, .int .i64 0], .agg [.int .i64 4, .int .i64 0], .agg [.int .i64 4, .int .i64 4], .agg [.int .i64 0, .int .i64 4]], .agg [.int .i64 4, .int .i64 0], .agg [.int .i64 4, .int .i64 4]], .bool true, []⟩ :: ms10
theorem ok11 : MemoOk Try.prog ms11 := memoOk_cons x_opp12 ok10
theorem x_opp13 : CallsF Try.prog 65 [.sv false 2 [.agg [.int .i64 0, .int .i64 0], .agg [.int .i64 4, .int .i64 0], .agg [.int .i64 4, .int .i64 4], .agg [.int .i64 0, .int .i64 4]], .agg [.int .i64 4, .int .i64 0], .agg [.int .i64 0, .int .i64 4]] [] (.bool true) [] := xFm_sound hm tOk ok11 20 _ _ _ _ _ (by kernel_rfl : xFm nm T ms11 1000 20 65 [.sv false 2 [.agg [.int .i64 0, .int .i64 0], .agg [.int .i64 4, .int .i64 0], .agg [.int .i64 4, .int .i64 4], .agg [.int .i64 0, .int .i64 4]], .agg [.int .i64 4, .int .i64 0], .agg [.int .i64 0, .int .i64 4]] [] = some (.bool true, []))
def ms12 : List Memo := ⟨65, [.sv false 2 [.agg [.int .i64 0, .int .i64 0], .agg [.int .i64 4, .int .i64 0], .agg [.int .i64 4, .int .i64 4], .agg [.int .i64 0, .int .i64 4]], .agg [.int .i64 4, .int .i64 0], .agg [.int .i64 0, .int .i64 4]], .bool true, []⟩ :: ms11
theorem ok12 : MemoOk Try.prog ms12 := memoOk_cons x_opp13 ok11
theorem x_opp23 : CallsF Try.prog 65 [.sv false 2 [.agg [.int .i64 0, .int .i64 0], .agg [.int .i64 4, .int .i64 0], .agg [.int .i64 4, .int .i64 4], .agg [.int .i64 0, .int .i64 4]], .agg [.int .i64 4, .int .i64 4], .agg [.int .i64 0, .int .i64 4]] [] (.bool true) [] := xFm_sound hm tOk ok12 20 _ _ _ _ _ (by kernel_rfl : xFm nm T ms12 1000 20 65 [.sv false 2 [.agg [.int .i64 0, .int .i64 0], .agg [.int .i64 4, .int .i64 0], .agg [.int .i64 4, .int .i64 4], .agg [.int .i64 0, .int .i64 4]], .agg [.int .i64 4, .int .i64 4], .agg [.int .i64 0, .int .i64 4]] [] = some (.bool true, []))
def ms13 : List Memo := ⟨65, [.sv false 2 [.agg [.int .i64 0, .int .i64 0], .agg [.int .i64 4, .int .i64 0], .agg [.int .i64 4, .int .i64 4], .agg [.int .i64 0, .int .i64 4]], .agg [.int .i64 4, .int .i64 4], .agg [.int .i64 0, .int .i64 4]], .bool true, []⟩ :: ms12
theorem ok13 : MemoOk Try.prog ms13 := memoOk_cons x_opp23 ok12
theorem x_sorted : CallsF Try.prog 63 [.clo 94 [.rp true [.sv false 1 [.int .i64 0, .int .i64 1, .int .i64 3, .int .i64 4]]]] [] (.sl 0 0 0 4) [.row false 0 false 1 [.int .i64 0, .int .i64 1, .int .i64 3, .int .i64 4]] := xFm_sound hm tOk ok13 20 _ _ _ _ _ (by kernel_rfl : xFm nm T ms13 1000 20 63 [.clo 94 [.rp true [.sv false 1 [.int .i64 0, .int .i64 1, .int .i64 3, .int .i64 4]]]] [] = some (.sl 0 0 0 4, [.row false 0 false 1 [.int .i64 0, .int .i64 1, .int .i64 3, .int .i64 4]]))
def ms14 : List Memo := ⟨63, [.clo 94 [.rp true [.sv false 1 [.int .i64 0, .int .i64 1, .int .i64 3, .int .i64 4]]]], .sl 0 0 0 4, [.row false 0 false 1 [.int .i64 0, .int .i64 1, .int .i64 3, .int .i64 4]]⟩ :: ms13
theorem ok14 : MemoOk Try.prog ms14 := memoOk_cons x_sorted ok13
theorem x_anti : CallsF Try.prog 20 [tb] [] (.tup [.sl 0 0 0 6, .int .i64 0]) [.row false 0 false 2 [.agg [.int .i64 0, .int .i64 1], .agg [.int .i64 0, .int .i64 3], .agg [.int .i64 0, .int .i64 4], .agg [.int .i64 1, .int .i64 3], .agg [.int .i64 1, .int .i64 4], .agg [.int .i64 3, .int .i64 4]]] := xFm_sound hm tOk ok14 20 _ _ _ _ _ (by kernel_rfl : xFm nm T ms14 1000 20 20 [tb] [] = some (.tup [.sl 0 0 0 6, .int .i64 0], [.row false 0 false 2 [.agg [.int .i64 0, .int .i64 1], .agg [.int .i64 0, .int .i64 3], .agg [.int .i64 0, .int .i64 4], .agg [.int .i64 1, .int .i64 3], .agg [.int .i64 1, .int .i64 4], .agg [.int .i64 3, .int .i64 4]]]))
def ms15 : List Memo := ⟨20, [tb], .tup [.sl 0 0 0 6, .int .i64 0], [.row false 0 false 2 [.agg [.int .i64 0, .int .i64 1], .agg [.int .i64 0, .int .i64 3], .agg [.int .i64 0, .int .i64 4], .agg [.int .i64 1, .int .i64 3], .agg [.int .i64 1, .int .i64 4], .agg [.int .i64 3, .int .i64 4]]]⟩ :: ms14
theorem ok15 : MemoOk Try.prog ms15 := memoOk_cons x_anti ok14
theorem x_far : CallsF Try.prog 44 [tb] [] (.tup [.int .i64 32, .agg [.int .i64 0, .int .i64 3], .int .i64 0]) [] := xFm_sound hm tOk ok15 20 _ _ _ _ _ (by kernel_rfl : xFm nm T ms15 1000 20 44 [tb] [] = some (.tup [.int .i64 32, .agg [.int .i64 0, .int .i64 3], .int .i64 0], []))
def ms16 : List Memo := ⟨44, [tb], .tup [.int .i64 32, .agg [.int .i64 0, .int .i64 3], .int .i64 0], []⟩ :: ms15
theorem ok16 : MemoOk Try.prog ms16 := memoOk_cons x_far ok15
theorem x_sep : CallsF Try.prog 23 [.sv false 2 [.agg [.int .i64 0, .int .i64 0], .agg [.int .i64 0, .int .i64 5]], .sv false 2 [.agg [.int .i64 1, .int .i64 0]]] [] (.tup [.bool true, .agg [.int .i64 1, .int .i64 0], .int .i64 0, .int .i64 0]) [] := xFm_sound hm tOk ok16 20 _ _ _ _ _ (by kernel_rfl : xFm nm T ms16 1000 20 23 [.sv false 2 [.agg [.int .i64 0, .int .i64 0], .agg [.int .i64 0, .int .i64 5]], .sv false 2 [.agg [.int .i64 1, .int .i64 0]]] [] = some (.tup [.bool true, .agg [.int .i64 1, .int .i64 0], .int .i64 0, .int .i64 0], []))
def ms17 : List Memo := ⟨23, [.sv false 2 [.agg [.int .i64 0, .int .i64 0], .agg [.int .i64 0, .int .i64 5]], .sv false 2 [.agg [.int .i64 1, .int .i64 0]]], .tup [.bool true, .agg [.int .i64 1, .int .i64 0], .int .i64 0, .int .i64 0], []⟩ :: ms16
theorem ok17 : MemoOk Try.prog ms17 := memoOk_cons x_sep ok16
theorem x_awake : CallsF Try.prog 12 [] [] (.bool true) [] := xFm_sound hm tOk ok17 20 _ _ _ _ _ (by kernel_rfl : xFm nm T ms17 1000 20 12 [] [] = some (.bool true, []))
end Go.Hull.Aw
end
section
set_option linter.unusedSimpArgs false
set_option linter.unusedVariables false
set_option maxHeartbeats 4000000
namespace Go.Hull
open Go Go.Am Go.Proofs

def P (l : List Pt) (i : Nat) : Pt := l.getD i (0, 0)
structure HullT (l : List Pt) (v : List Nat) : Prop where
  ne : 0 < v.length
  le : v.length ≤ l.length
  mem : ∀ x ∈ v, x < l.length
  first : ∀ p ∈ l, before p (P l (v.getD 0 0)) = false
  big : 2 < v.length → ∀ i, i < v.length → ∀ p ∈ l, 0 ≤ left (P l (v.getD i 0)) (P l (v.getD ((i + 1) % v.length) 0)) p
  turns : 2 < v.length → ∀ i, i < v.length → 0 < left (P l (v.getD i 0)) (P l (v.getD ((i + 1) % v.length) 0)) (P l (v.getD ((i + 2) % v.length) 0))
  two : v.length = 2 → ∀ i, i < 2 → ∀ p ∈ l, left (P l (v.getD i 0)) (P l (v.getD ((i + 1) % v.length) 0)) p = 0
  two' : v.length = 2 → ∀ p ∈ l, before (P l (v.getD 1 0)) p = false
  one : v.length = 1 → ∀ p ∈ l, p = P l (v.getD 0 0)
theorem take_getD' {zs v : List Nat} {n i : Nat} (h : zs.take n = v) (hi : i < n) : zs.getD i 0 = v.getD i 0 := by
  rw [← h, List.getD_eq_getElem?_getD, List.getD_eq_getElem?_getD, List.getElem?_take_of_lt hi]
theorem foldl_max_mem : ∀ (v : List Nat) (a : Nat), v.foldl max a = a ∨ v.foldl max a ∈ v := by
  intro v
  induction v with
  | nil => intro a; exact .inl rfl
  | cons x v ih =>
    intro a
    simp only [List.foldl_cons]
    rcases ih (max a x) with h | h
    · rw [h]
      by_cases hx : x ≤ a
      · exact .inl (Nat.max_eq_left hx)
      · exact .inr (by rw [Nat.max_eq_right (by omega)]; simp)
    · exact .inr (by simp [h])
theorem mostI_mem {v : List Nat} (hv : 0 < v.length) : mostI v ∈ v := by
  cases v with
  | nil => simp at hv
  | cons x v =>
    unfold mostI
    rcases foldl_max_mem v x with h | h
    · simp [h]
    · simp [h]
theorem viewArgs1 {hl : List Blk} {x x' : AV} {T : List Nat} (h1 : viewG hl 6 x = some (x', T)) : viewArgs hl [x] = some ([x'], T) := by
  simp only [viewArgs, h1, List.append_nil]
end Go.Hull
end
