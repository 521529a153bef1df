/- Reversing, equal points, chains: walks.
   Conditions: numbers of points of a list in range. -/
import Derived.Test.YtkbpkbjfphdgeaaHW6
set_option linter.unusedSimpArgs false
set_option linter.unusedVariables false
set_option maxHeartbeats 2000000
namespace Go.Hull
open Go Go.Am Go.Proofs

def eqP (p q : Pt) : Bool := (p.1 == q.1) && ((p.2 == q.2) && true)

theorem c85 {l : List Pt} {i k : Nat} {p q : Pt} (hi : l[i]? = some p) (hk : l[k]? = some q) : CallsF Try.prog 85 [.int .i64 (i : Int), .int .i64 (k : Int), .rp true [pts l]] [] (.bool (eqP p q)) [] := by
  have hil : (i : Int) < (l.length : Int) := by have := (List.getElem?_eq_some_iff.1 hi).1; omega
  have hkl : (k : Int) < (l.length : Int) := by have := (List.getElem?_eq_some_iff.1 hk).1; omega
  have hpi := get_pts hi
  have hpk := get_pts hk
  refine callsF_cw hm hf85 (by simp [cf85]) ?_
  simp only [cf85, argsAl]
  refine CW.rI fun K hK => ?_
  simp (maxSteps := 4000000) only [amC, amR, evsA, evpA, elemsA, elemsP, sizedA, optA, refA, setO, Am.set, Am.get, AV.elem, AV.cells, AV.one, hsetL, hset, hget, loadAV, rowAt?, loadCells', faddrAV, binAV, fillA, storeAV, AV.putCells, AV.ref, List.foldl, List.all, List.map, List.set, List.take, List.drop, Option.getD, Option.map, if_true, if_false, Nat.reduceEqDiff, Nat.reduceAdd, Nat.reduceLT, Nat.reduceLeDiff, reduceCtorEq, ↓reduceIte, pickAV, lenAV, intAV, slcA, slcAV, iaddrAV, extAV, fldAV, eqCells, eqCell, contAV, appendAV, foldAV, maxI, minI, Option.some.injEq, catT]
  refine hK _ _ nofun ?_
  clear hK K
  unfold pts
  refine CW.rI fun K hK => ?_
  simp (maxSteps := 4000000) only [amC, amR, evsA, evpA, elemsA, elemsP, sizedA, optA, refA, setO, Am.set, Am.get, AV.elem, AV.cells, AV.one, hsetL, hset, hget, loadAV, rowAt?, loadCells', faddrAV, binAV, fillA, storeAV, AV.putCells, AV.ref, List.foldl, List.all, List.map, List.set, List.take, List.drop, Option.getD, Option.map, if_true, if_false, Nat.reduceEqDiff, Nat.reduceAdd, Nat.reduceLT, Nat.reduceLeDiff, reduceCtorEq, ↓reduceIte, pickAV, lenAV, intAV, slcA, slcAV, iaddrAV, extAV, fldAV, eqCells, eqCell, contAV, appendAV, foldAV, maxI, minI, Option.some.injEq, catT, List.length_map, hil, hkl, hpi, hpk, Int.toNat_natCast, Int.natCast_nonneg, AV.cells, pt]
  refine hK _ _ (fun _ => rfl) ?_
  clear hK K
  exact CW.ret (finK_pure (.inr rfl) (xs := [.bool (eqP p q)]) (by simp [resRV, Am.get, eqP]) rfl rfl)

def rv (n : Nat) : Nat → Nat → List Nat → List Nat
  | 0, _, xs => xs
  | f + 1, i, xs => if i < n - 1 - i then rv n f (i + 1) ((xs.set i (xs.getD (n - 1 - i) 0)).set (n - 1 - i) (xs.getD i 0)) else xs

theorem c87 (g : Nat) (xs : List Nat) (hn : xs.length < 4611686018427387904) :
    CallsF Try.prog 87 [.sl 0 g 0 xs.length] [.row false g false 1 (ix xs)] (.tup []) [.row false g false 1 (ix (rv xs.length xs.length 0 xs))] := by
  have hw : IntKind.i64.wrap ((xs.length : Int) - 1) = (xs.length : Int) - 1 := wr _ (by omega) (by omega)
  refine callsF_cw hm hf87 (by simp [cf87]) ?_
  simp only [cf87, argsAl]
  refine CW.rI fun K hK => ?_
  simp (maxSteps := 4000000) only [amC, amR, evsA, evpA, elemsA, elemsP, sizedA, optA, refA, setO, Am.set, Am.get, AV.elem, AV.cells, AV.one, hsetL, hset, hget, loadAV, rowAt?, loadCells', faddrAV, binAV, fillA, storeAV, AV.putCells, AV.ref, List.foldl, List.all, List.map, List.set, List.take, List.drop, Option.getD, Option.map, if_true, if_false, Nat.reduceEqDiff, Nat.reduceAdd, Nat.reduceLT, Nat.reduceLeDiff, reduceCtorEq, ↓reduceIte, pickAV, lenAV, intAV, slcA, slcAV, iaddrAV, extAV, fldAV, eqCells, eqCell, contAV, appendAV, foldAV, maxI, minI, Option.some.injEq, catT, hw]
  refine hK _ _ nofun ?_
  clear hK K
  refine CW.block ?_
  refine CW.loopF (fun q : Nat × List Nat => xs.length - q.1) (fun q => ⟨[(0, .sl 0 g 0 xs.length), (2, .int .i64 (q.1 : Int)), (3, .int .i64 ((xs.length : Int) - 1 - (q.1 : Int)))], [.row false g false 1 (ix q.2)]⟩)
    (fun q => q.1 ≤ xs.length ∧ q.2.length = xs.length ∧ rv xs.length (xs.length - q.1) q.1 q.2 = rv xs.length xs.length 0 xs) (fun q hq => ?_) (0, xs) ⟨Nat.zero_le _, rfl, rfl⟩ _ (Fgt.mk' 1 (by simp) (by simp [keepB, Am.get, AV.lt, ltL]) rfl ⟨by simp only [Blk.lt, ltL_ix], trivial⟩)
  obtain ⟨i, ys⟩ := q
  obtain ⟨hi, hl, hr⟩ := hq
  simp only at hi hl hr
  refine CW.seq ?_
  by_cases h : (i : Int) < (xs.length : Int) - 1 - (i : Int)
  · obtain ⟨j, hj⟩ : ∃ j : Nat, (xs.length : Int) - 1 - (i : Int) = (j : Int) := ⟨xs.length - 1 - i, by omega⟩
    have hjn : j = xs.length - 1 - i := by omega
    have hij : i < j := by omega
    have hi1 : i < ys.length := by omega
    have hj1 : j < ys.length := by omega
    rw [hj] at h ⊢
    refine CW.rI fun K hK => ?_
    simp (maxSteps := 4000000) only [amC, amR, evsA, evpA, elemsA, elemsP, sizedA, optA, refA, setO, Am.set, Am.get, AV.elem, AV.cells, AV.one, hsetL, hset, hget, loadAV, rowAt?, loadCells', faddrAV, binAV, fillA, storeAV, AV.putCells, AV.ref, List.foldl, List.all, List.map, List.set, List.take, List.drop, Option.getD, Option.map, if_true, if_false, Nat.reduceEqDiff, Nat.reduceAdd, Nat.reduceLT, Nat.reduceLeDiff, reduceCtorEq, ↓reduceIte, pickAV, lenAV, intAV, slcA, slcAV, iaddrAV, extAV, fldAV, eqCells, eqCell, contAV, appendAV, foldAV, maxI, minI, Option.some.injEq, catT, h]
    refine hK _ _ nofun ?_
    clear hK K
    refine CW.condT rfl (CW.skip ?_)
    show CW _ _ _ _ _ _
    refine CW.seq ?_
    refine CW.block ?_
    have a1 : (i : Int) < ((xs.length : Nat) : Int) := by omega
    have a2 : (j : Int) < ((xs.length : Nat) : Int) := by omega
    refine CW.rE fun K hK => ?_
    simp (maxSteps := 4000000) only [amC, amR, evsA, evpA, elemsA, elemsP, sizedA, optA, refA, setO, Am.set, Am.get, AV.elem, AV.cells, AV.one, hsetL, hset, hget, loadAV, rowAt?, loadCells', faddrAV, binAV, fillA, storeAV, AV.putCells, AV.ref, List.foldl, List.all, List.map, List.set, List.take, List.drop, Option.getD, Option.map, if_true, if_false, Nat.reduceEqDiff, Nat.reduceAdd, Nat.reduceLT, Nat.reduceLeDiff, reduceCtorEq, ↓reduceIte, pickAV, lenAV, intAV, slcA, slcAV, iaddrAV, extAV, fldAV, eqCells, eqCell, contAV, appendAV, foldAV, maxI, minI, Option.some.injEq, catT, a1, a2, Int.natCast_nonneg, Int.toNat_natCast, ix_get ys hi1, ix_get ys hj1, AV.cells, AV.elem, AV.one, List.all_cons, List.all_nil, ix_set, ix_get (ys.set i (ys.getD j 0)) (show j < (ys.set i (ys.getD j 0)).length by simp; omega)]
    refine hK _ _ (fun _ => rfl) ?_
    clear hK K
    have w2 : IntKind.i64.wrap ((j : Int) - 1) = (xs.length : Int) - 1 - ((i + 1 : Nat) : Int) := by rw [wr _ (by omega) (by omega)]; omega
    refine CW.rE fun K hK => ?_
    simp (maxSteps := 4000000) only [amC, amR, evsA, evpA, elemsA, elemsP, sizedA, optA, refA, setO, Am.set, Am.get, AV.elem, AV.cells, AV.one, hsetL, hset, hget, loadAV, rowAt?, loadCells', faddrAV, binAV, fillA, storeAV, AV.putCells, AV.ref, List.foldl, List.all, List.map, List.set, List.take, List.drop, Option.getD, Option.map, if_true, if_false, Nat.reduceEqDiff, Nat.reduceAdd, Nat.reduceLT, Nat.reduceLeDiff, reduceCtorEq, ↓reduceIte, pickAV, lenAV, intAV, slcA, slcAV, iaddrAV, extAV, fldAV, eqCells, eqCell, contAV, appendAV, foldAV, maxI, minI, Option.some.injEq, catT, wrap_nat i (by omega), w2]
    refine hK _ _ nofun ?_
    clear hK K
    refine ⟨(i + 1, (ys.set i (ys.getD j 0)).set j (ys.getD i 0)), by simp only; omega, ⟨by simp only; omega, by simp [hl], ?_⟩, Fgt.mk' 1 (by simp) (by simp [keepB, Am.get, AV.lt, ltL]) rfl ⟨by simp only [Blk.lt, ltL_ix], trivial⟩⟩
    rw [← hr]
    have e : xs.length - i = (xs.length - (i + 1)) + 1 := by omega
    rw [e]
    simp only [rv]
    rw [if_pos (by omega), hjn]
  · refine CW.rI fun K hK => ?_
    simp (maxSteps := 4000000) only [amC, amR, evsA, evpA, elemsA, elemsP, sizedA, optA, refA, setO, Am.set, Am.get, AV.elem, AV.cells, AV.one, hsetL, hset, hget, loadAV, rowAt?, loadCells', faddrAV, binAV, fillA, storeAV, AV.putCells, AV.ref, List.foldl, List.all, List.map, List.set, List.take, List.drop, Option.getD, Option.map, if_true, if_false, Nat.reduceEqDiff, Nat.reduceAdd, Nat.reduceLT, Nat.reduceLeDiff, reduceCtorEq, ↓reduceIte, pickAV, lenAV, intAV, slcA, slcAV, iaddrAV, extAV, fldAV, eqCells, eqCell, contAV, appendAV, foldAV, maxI, minI, Option.some.injEq, catT, h]
    refine hK _ _ nofun ?_
    clear hK K
    refine CW.condF rfl (CW.exit ?_)
    have hys : ys = rv xs.length xs.length 0 xs := by
      rw [← hr]
      cases hf : xs.length - i with
      | zero => rfl
      | succ f =>
        simp only [rv]
        rw [if_neg (by omega)]
    subst hys
    exact finK_keep (.inl rfl) (xs := []) rfl rfl rfl (by simp) rfl (fun b hb => by rw [List.mem_singleton.1 hb]; simp only [Blk.allR, allRL_ix])

/-- The top of the stack stands first. -/
def pop (l : List Pt) (i : Nat) : List Nat → List Nat
  | b :: a :: r => if left (l.getD a (0, 0)) (l.getD b (0, 0)) (l.getD i (0, 0)) ≤ 0 then pop l i (a :: r) else b :: a :: r
  | st => st
def chainS (l : List Pt) (ord : List Nat) : List Nat := ord.foldl (fun st i => i :: pop l i st) []

theorem pop_mem {l : List Pt} {i n : Nat} : ∀ (st : List Nat), (∀ x ∈ st, x < n) → ∀ x ∈ pop l i st, x < n := by
  intro st
  induction st with
  | nil => intro h; exact h
  | cons b st ih =>
    intro h
    cases st with
    | nil => exact h
    | cons a r =>
      simp only [pop]
      split
      · exact ih fun x hx => h x (by simp [hx])
      · exact h
theorem pop_length {l : List Pt} {i : Nat} : ∀ (st : List Nat), (pop l i st).length ≤ st.length := by
  intro st
  induction st with
  | nil => exact Nat.le_refl _
  | cons b st ih =>
    cases st with
    | nil => exact Nat.le_refl _
    | cons a r =>
      simp only [pop]
      split
      · exact Nat.le_trans ih (by simp)
      · exact Nat.le_refl _

theorem take_get {zs st : List Nat} {n k : Nat} (h : zs.take n = st.reverse) (hn : n = st.length) (hk : k < n) : zs.getD k 0 = st.getD (n - 1 - k) 0 ∧ k < zs.length := by
  have hl : (zs.take n).length = n := by rw [h, List.length_reverse, hn]
  have hz : n ≤ zs.length := by rw [List.length_take] at hl; omega
  refine ⟨?_, by omega⟩
  have e1 : zs[k]? = (zs.take n)[k]? := by rw [List.getElem?_take, if_pos hk]
  rw [List.getD_eq_getElem?_getD, e1, h, List.getElem?_reverse (by omega), List.getD_eq_getElem?_getD, hn]
end Go.Hull
