/- A chain of left turns: walk.
   Conditions: numbers of points of a list in range. -/
import Derived.Test.YtkbpkbjfphdgeaaHW7
import Derived.Test.YtkbpkbjfphdgeaaAm14
set_option linter.unusedSimpArgs false
set_option linter.unusedVariables false
set_option maxHeartbeats 2000000
namespace Go.Hull
open Go Go.Am Go.Proofs

theorem elem_int (k : IntKind) (n : Int) : (AV.int k n).elem = true := rfl
theorem all_ok {l : List Pt} (h : l.all okP = true) {k : Nat} (hk : k < l.length) : okP (l.getD k (0, 0)) = true :=
  List.all_eq_true.1 h _ (List.mem_of_getElem? (getp hk))
theorem foldl_take_succ {α β : Type} (f : β → α → β) (b : β) (l : List α) {i : Nat} {x : α} (h : l[i]? = some x) : (l.take (i + 1)).foldl f b = f ((l.take i).foldl f b) x := by
  rw [List.take_add_one, h]
  simp
theorem blk_eq {a a' : Bool} {g : Nat} {f : Bool} {s : Nat} {x x' : List AV} (h1 : a = a') (h2 : x = x') : Blk.row a g f s x = Blk.row a' g f s x' := by rw [h1, h2]

theorem chain_pos {l : List Pt} : ∀ (ord st : List Nat), ord ≠ [] → 0 < (ord.foldl (fun st i => i :: pop l i st) st).length := by
  intro ord
  induction ord with
  | nil => intro st h; exact absurd rfl h
  | cons o os ih =>
    intro st _
    cases os with
    | nil => simp
    | cons o' os' => exact ih _ (by simp)

theorem c86 (l : List Pt) (hok : l.all okP = true) (ord : List Nat) (ho : ∀ x ∈ ord, x < l.length) (hne : ord ≠ []) (hn : ord.length < 1000) :
    CallsF Try.prog 86 [.sv false 1 (ix ord), .rp true [pts l]] [] (.sl 0 0 0 ((chainS l ord).length - 1)) [.row false 0 false 1 (ix ((chainS l ord).reverse))] := by
  refine callsF_cwx hm hf86 (by simp [cf86]) ?_
  simp only [cf86, argsAl]
  refine CWx.r fun K hK => ?_
  simp (maxSteps := 4000000) only [amC, amX, evsA, evpA, elemsA, elemsP, sizedA, optA, refA, consO, Am.get, AV.elem, AV.cells, AV.one, hsetL, hset, hget, loadAV, rowAt?, loadCells', faddrAV, binAV, fillA, storeAV, AV.putCells, AV.ref, List.foldl, List.all, List.map, List.set, List.take, List.drop, Option.getD, Option.map, if_true, if_false, Nat.reduceEqDiff, Nat.reduceAdd, Nat.reduceLT, Nat.reduceLeDiff, reduceCtorEq, ↓reduceIte, pickAV, lenAV, intAV, slcA, slcAV, iaddrAV, extAV, fldAV, eqCells, eqCell, contAV, appendAV, foldAV, maxI, minI, Option.some.injEq, catT]
  refine hK _ _ _ nofun ?_
  clear hK K
  refine CWx.r fun K hK => ?_
  simp (maxSteps := 4000000) only [amC, amX, evsA, evpA, elemsA, elemsP, sizedA, optA, refA, consO, Am.get, AV.elem, AV.cells, AV.one, hsetL, hset, hget, loadAV, rowAt?, loadCells', faddrAV, binAV, fillA, storeAV, AV.putCells, AV.ref, List.foldl, List.all, List.map, List.set, List.take, List.drop, Option.getD, Option.map, if_true, if_false, Nat.reduceEqDiff, Nat.reduceAdd, Nat.reduceLT, Nat.reduceLeDiff, reduceCtorEq, ↓reduceIte, pickAV, lenAV, intAV, slcA, slcAV, iaddrAV, extAV, fldAV, eqCells, eqCell, contAV, appendAV, foldAV, maxI, minI, Option.some.injEq, catT]
  refine hK _ _ _ nofun ?_
  clear hK K
  refine CWx.seq ?_
  refine CWx.r fun K hK => ?_
  simp (maxSteps := 4000000) only [amC, amX, evsA, evpA, elemsA, elemsP, sizedA, optA, refA, consO, Am.get, AV.elem, AV.cells, AV.one, hsetL, hset, hget, loadAV, rowAt?, loadCells', faddrAV, binAV, fillA, storeAV, AV.putCells, AV.ref, List.foldl, List.all, List.map, List.set, List.take, List.drop, Option.getD, Option.map, if_true, if_false, Nat.reduceEqDiff, Nat.reduceAdd, Nat.reduceLT, Nat.reduceLeDiff, reduceCtorEq, ↓reduceIte, pickAV, lenAV, intAV, slcA, slcAV, iaddrAV, extAV, fldAV, eqCells, eqCell, contAV, appendAV, foldAV, maxI, minI, Option.some.injEq, catT, ix_length]
  refine hK _ _ _ nofun ?_
  clear hK K
  refine CWx.block ?_
  refine CWx.loopF (fun q : Nat × List Nat × List Nat => ord.length - q.1) (fun q => ⟨[(0, .sv false 1 (ix ord)), (1, .rp true [pts l]), (4, .sl 1 q.1 0 q.2.1.length), (7, .sv false 1 (ix ord)), (8, .int .i64 (ord.length : Int)), (9, .int .i64 (q.1 : Int))], [.row true 0 false 1 [], .row (decide (q.1 = 0)) q.1 false 1 (ix q.2.2)]⟩)
    (fun q => q.1 ≤ ord.length ∧ q.2.2.take q.2.1.length = q.2.1.reverse ∧ (∀ x ∈ q.2.1, x < l.length) ∧ q.2.1.length ≤ q.1 ∧ (q.2.2.length = q.2.1.length) ∧ q.2.1 = (ord.take q.1).foldl (fun st i => i :: pop l i st) []) (fun q hq => ?_) (0, [], []) ⟨Nat.zero_le _, rfl, by simp, by simp, rfl, by simp⟩
    (Fgt.mk' 2 (by simp) (by simp [keepB, Am.get, AV.lt, ltL, lt_pts, ltL_ix]) rfl ⟨rfl, rfl, trivial⟩)
  obtain ⟨i, st, zs⟩ := q
  obtain ⟨hi, hz, hm, hsl, hzl, hst⟩ := hq
  simp only at hi hz hm hsl hzl hst
  by_cases h : (i : Int) < (ord.length : Int)
  · have hil : i < ord.length := by omega
    have hv := ix_get ord hil
    have hvo : ord[i]? = some (ord.getD i 0) := by simp [List.getD_eq_getElem?_getD, List.getElem?_eq_getElem hil]
    have hov := getD_lt ho hil
    obtain ⟨v, hvd⟩ : ∃ v, v = ord.getD i 0 := ⟨_, rfl⟩
    rw [← hvd] at hv hov hvo
    have hpv := get_pts (getp hov)
    have okv := all_ok hok hov
    refine CWx.r fun K hK => ?_
    simp (maxSteps := 4000000) only [amC, amX, evsA, evpA, elemsA, elemsP, sizedA, optA, refA, consO, Am.get, AV.elem, AV.cells, AV.one, hsetL, hset, hget, loadAV, rowAt?, loadCells', faddrAV, binAV, fillA, storeAV, AV.putCells, AV.ref, List.foldl, List.all, List.map, List.set, List.take, List.drop, Option.getD, Option.map, if_true, if_false, Nat.reduceEqDiff, Nat.reduceAdd, Nat.reduceLT, Nat.reduceLeDiff, reduceCtorEq, ↓reduceIte, pickAV, lenAV, intAV, slcA, slcAV, iaddrAV, extAV, fldAV, eqCells, eqCell, contAV, appendAV, foldAV, maxI, minI, Option.some.injEq, catT, h]
    refine hK _ _ _ nofun ?_
    clear hK K
    refine CWx.seq ?_
    refine CWx.condT rfl (CWx.skip (CWx.go ?_))
    refine CWx.seq ?_
    refine CWx.block ?_
    refine CWx.r fun K hK => ?_
    simp (maxSteps := 4000000) only [amC, amX, evsA, evpA, elemsA, elemsP, sizedA, optA, refA, consO, Am.get, AV.elem, AV.cells, AV.one, hsetL, hset, hget, loadAV, rowAt?, loadCells', faddrAV, binAV, fillA, storeAV, AV.putCells, AV.ref, List.foldl, List.all, List.map, List.set, List.take, List.drop, Option.getD, Option.map, if_true, if_false, Nat.reduceEqDiff, Nat.reduceAdd, Nat.reduceLT, Nat.reduceLeDiff, reduceCtorEq, ↓reduceIte, pickAV, lenAV, intAV, slcA, slcAV, iaddrAV, extAV, fldAV, eqCells, eqCell, contAV, appendAV, foldAV, maxI, minI, Option.some.injEq, catT, ix_length, h, Int.natCast_nonneg, Int.toNat_natCast, hv, AV.cells]
    refine hK _ _ _ nofun ?_
    clear hK K
    refine CWx.seq ?_
    refine CWx.block ?_
    refine CWx.loopF (fun q : List Nat => q.length) (fun q => ⟨[(0, .sv false 1 (ix ord)), (1, .rp true [pts l]), (4, .sl 1 i 0 q.length), (6, .int .i64 (v : Int)), (7, .sv false 1 (ix ord)), (8, .int .i64 (ord.length : Int)), (9, .int .i64 (i : Int))], [.row true 0 false 1 [], .row (decide (i = 0)) i false 1 (ix zs)]⟩)
      (fun q => zs.take q.length = q.reverse ∧ (∀ x ∈ q, x < l.length) ∧ q.length ≤ i ∧ q.length ≤ zs.length ∧ pop l v q = pop l v st) (fun q hq => ?_) st ⟨hz, hm, hsl, by omega, rfl⟩ (Fgt.mk' 2 (by simp) (by simp [keepB, Am.get, AV.lt, ltL, lt_pts, ltL_ix]) rfl ⟨rfl, by simp only [Blk.lt, ltL_ix], trivial⟩)
    obtain ⟨hqz, hqm, hqi, hqzl, hqp⟩ := hq
    have hb : (q.length + 1) * 8 ≤ appBound := by unfold appBound; omega
    refine CWx.seq ?_
    match q, hqz, hqm, hqi, hqzl, hqp, hb with
    | [], hqz, hqm, hqi, hqzl, hqp, hb =>
      have hp : pop l v [] = [] := rfl
      obtain ⟨q, hq0⟩ : ∃ q : List Nat, q = [] := ⟨[], rfl⟩
      refine CWx.r fun K hK => ?_
      simp (maxSteps := 4000000) only [amC, amX, evsA, evpA, elemsA, elemsP, sizedA, optA, refA, consO, Am.get, AV.elem, AV.cells, AV.one, hsetL, hset, hget, loadAV, rowAt?, loadCells', faddrAV, binAV, fillA, storeAV, AV.putCells, AV.ref, List.foldl, List.all, List.map, List.set, List.take, List.drop, Option.getD, Option.map, if_true, if_false, Nat.reduceEqDiff, Nat.reduceAdd, Nat.reduceLT, Nat.reduceLeDiff, reduceCtorEq, ↓reduceIte, pickAV, lenAV, intAV, slcA, slcAV, iaddrAV, extAV, fldAV, eqCells, eqCell, contAV, appendAV, foldAV, maxI, minI, Option.some.injEq, catT, List.length_nil, show ¬ ((1 : Int) < ((0 : Nat) : Int)) from by decide]
      refine hK _ _ _ (fun _ => rfl) ?_
      clear hK K
      refine CWx.condF rfl (CWx.exit (CWx.go ?_))
      rw [← hq0] at hp hqz hqm hqi hqzl hqp hb
      have e0 : (0 : Nat) = q.length := by rw [hq0]; rfl
      have e1 : (AV.sl 1 i 0 0) = .sl 1 i 0 q.length := by rw [← e0]
      rw [e1]
      refine CWx.e fun K hK => ?_
      simp (maxSteps := 4000000) only [amC, amX, evsA, evpA, elemsA, elemsP, sizedA, optA, refA, consO, Am.get, AV.elem, AV.cells, AV.one, hsetL, hset, hget, loadAV, rowAt?, loadCells', faddrAV, binAV, fillA, storeAV, AV.putCells, AV.ref, List.foldl, List.all, List.map, List.set, List.take, List.drop, Option.getD, Option.map, if_true, if_false, Nat.reduceEqDiff, Nat.reduceAdd, Nat.reduceLT, Nat.reduceLeDiff, reduceCtorEq, ↓reduceIte, pickAV, lenAV, intAV, slcA, slcAV, iaddrAV, extAV, fldAV, eqCells, eqCell, contAV, appendAV, foldAV, maxI, minI, Option.some.injEq, catT, sizedA, elem_int, AV.cells, beq_self_eq_true, Bool.and_self, hb, hqzl, List.isEmpty_cons, ix_length, Nat.reduceBEq, true_or, or_true]
      refine hK _ _ _ nofun ?_
      clear hK K
      refine CWx.go ?_
      refine CWx.e fun K hK => ?_
      simp (maxSteps := 4000000) only [amC, amX, evsA, evpA, elemsA, elemsP, sizedA, optA, refA, consO, Am.get, AV.elem, AV.cells, AV.one, hsetL, hset, hget, loadAV, rowAt?, loadCells', faddrAV, binAV, fillA, storeAV, AV.putCells, AV.ref, List.foldl, List.all, List.map, List.set, List.take, List.drop, Option.getD, Option.map, if_true, if_false, Nat.reduceEqDiff, Nat.reduceAdd, Nat.reduceLT, Nat.reduceLeDiff, reduceCtorEq, ↓reduceIte, pickAV, lenAV, intAV, slcA, slcAV, iaddrAV, extAV, fldAV, eqCells, eqCell, contAV, appendAV, foldAV, maxI, minI, Option.some.injEq, catT, wrap_nat i (by omega)]
      refine hK _ _ _ nofun ?_
      clear hK K
      intro al hal
      have hlen2 : (v :: pop l v st).length = q.length + 1 := by rw [← hqp, hp]; rfl
      refine ⟨(i + 1, v :: pop l v st, (v :: pop l v st).reverse), by simp only; omega, ⟨by simp only; omega, ?_, ?_, ?_, ?_, ?_⟩, Fgt.ofx hal (Fgt.mk' 2 (by simp) ?_ ?_ ⟨rfl, by simp only [Blk.lt, ltL_ix], trivial⟩)⟩
      · exact List.take_of_length_le (by simp)
      · intro x hx
        rcases List.mem_cons.1 hx with rfl | hx
        · exact hov
        · exact pop_mem st hm x hx
      · simp only [hlen2]; omega
      · simp
      · simp only
        rw [foldl_take_succ _ _ _ hvo, ← hst]
      · simp only [hlen2]
        simp [keepB, Am.get, AV.lt, ltL, lt_pts, ltL_ix, pts, ltL_pt]
      · simp [ix_take, hqz, ← hqp, hp]
        simp [ix]
    | [a], hqz, hqm, hqi, hqzl, hqp, hb =>
      have hp : pop l v [a] = [a] := rfl
      obtain ⟨q, hq0⟩ : ∃ q : List Nat, q = [a] := ⟨[a], rfl⟩
      refine CWx.r fun K hK => ?_
      simp (maxSteps := 4000000) only [amC, amX, evsA, evpA, elemsA, elemsP, sizedA, optA, refA, consO, Am.get, AV.elem, AV.cells, AV.one, hsetL, hset, hget, loadAV, rowAt?, loadCells', faddrAV, binAV, fillA, storeAV, AV.putCells, AV.ref, List.foldl, List.all, List.map, List.set, List.take, List.drop, Option.getD, Option.map, if_true, if_false, Nat.reduceEqDiff, Nat.reduceAdd, Nat.reduceLT, Nat.reduceLeDiff, reduceCtorEq, ↓reduceIte, pickAV, lenAV, intAV, slcA, slcAV, iaddrAV, extAV, fldAV, eqCells, eqCell, contAV, appendAV, foldAV, maxI, minI, Option.some.injEq, catT, List.length_nil, List.length_cons, show ¬ ((1 : Int) < ((0 + 1 : Nat) : Int)) from by decide]
      refine hK _ _ _ (fun _ => rfl) ?_
      clear hK K
      refine CWx.condF rfl (CWx.exit (CWx.go ?_))
      rw [← hq0] at hp hqz hqm hqi hqzl hqp hb
      have e0 : 0 + 1 = q.length := by rw [hq0]; rfl
      have e1 : (AV.sl 1 i 0 (0 + 1)) = .sl 1 i 0 q.length := by rw [← e0]
      rw [e1]
      refine CWx.e fun K hK => ?_
      simp (maxSteps := 4000000) only [amC, amX, evsA, evpA, elemsA, elemsP, sizedA, optA, refA, consO, Am.get, AV.elem, AV.cells, AV.one, hsetL, hset, hget, loadAV, rowAt?, loadCells', faddrAV, binAV, fillA, storeAV, AV.putCells, AV.ref, List.foldl, List.all, List.map, List.set, List.take, List.drop, Option.getD, Option.map, if_true, if_false, Nat.reduceEqDiff, Nat.reduceAdd, Nat.reduceLT, Nat.reduceLeDiff, reduceCtorEq, ↓reduceIte, pickAV, lenAV, intAV, slcA, slcAV, iaddrAV, extAV, fldAV, eqCells, eqCell, contAV, appendAV, foldAV, maxI, minI, Option.some.injEq, catT, sizedA, elem_int, AV.cells, beq_self_eq_true, Bool.and_self, hb, hqzl, List.isEmpty_cons, ix_length, Nat.reduceBEq, true_or, or_true]
      refine hK _ _ _ nofun ?_
      clear hK K
      refine CWx.go ?_
      refine CWx.e fun K hK => ?_
      simp (maxSteps := 4000000) only [amC, amX, evsA, evpA, elemsA, elemsP, sizedA, optA, refA, consO, Am.get, AV.elem, AV.cells, AV.one, hsetL, hset, hget, loadAV, rowAt?, loadCells', faddrAV, binAV, fillA, storeAV, AV.putCells, AV.ref, List.foldl, List.all, List.map, List.set, List.take, List.drop, Option.getD, Option.map, if_true, if_false, Nat.reduceEqDiff, Nat.reduceAdd, Nat.reduceLT, Nat.reduceLeDiff, reduceCtorEq, ↓reduceIte, pickAV, lenAV, intAV, slcA, slcAV, iaddrAV, extAV, fldAV, eqCells, eqCell, contAV, appendAV, foldAV, maxI, minI, Option.some.injEq, catT, wrap_nat i (by omega)]
      refine hK _ _ _ nofun ?_
      clear hK K
      intro al hal
      have hlen2 : (v :: pop l v st).length = q.length + 1 := by rw [← hqp, hp]; rfl
      refine ⟨(i + 1, v :: pop l v st, (v :: pop l v st).reverse), by simp only; omega, ⟨by simp only; omega, ?_, ?_, ?_, ?_, ?_⟩, Fgt.ofx hal (Fgt.mk' 2 (by simp) ?_ ?_ ⟨rfl, by simp only [Blk.lt, ltL_ix], trivial⟩)⟩
      · exact List.take_of_length_le (by simp)
      · intro x hx
        rcases List.mem_cons.1 hx with rfl | hx
        · exact hov
        · exact pop_mem st hm x hx
      · simp only [hlen2]; omega
      · simp
      · simp only
        rw [foldl_take_succ _ _ _ hvo, ← hst]
      · simp only [hlen2]
        simp [keepB, Am.get, AV.lt, ltL, lt_pts, ltL_ix, pts, ltL_pt]
      · simp [ix_take, hqz, ← hqp, hp]
        simp [ix]
    | b :: a :: r, hqz, hqm, hqi, hqzl, hqp, hb =>
      simp only [List.length_cons] at hqz hqi hqzl hb
      have hnl : decide (i = 0) = false := by simp; omega
      have t0 := take_get (st := b :: a :: r) hqz rfl (show r.length < r.length + 1 + 1 by omega)
      have t1 := take_get (st := b :: a :: r) hqz rfl (show r.length + 1 < r.length + 1 + 1 by omega)
      have z0 := ix_get zs t0.2
      have z1 := ix_get zs t1.2
      rw [t0.1] at z0
      rw [t1.1] at z1
      have e0 : (b :: a :: r).getD (r.length + 1 + 1 - 1 - r.length) 0 = a := by rw [show r.length + 1 + 1 - 1 - r.length = 1 by omega]; rfl
      have e1 : (b :: a :: r).getD (r.length + 1 + 1 - 1 - (r.length + 1)) 0 = b := by rw [show r.length + 1 + 1 - 1 - (r.length + 1) = 0 by omega]; rfl
      rw [e0] at z0
      rw [e1] at z1
      have ba := hqm a (by simp)
      have bb := hqm b (by simp)
      have hpa := get_pts (getp ba)
      have hpb := get_pts (getp bb)
      have p1 : (1 : Int) < ((r.length + 1 + 1 : Nat) : Int) := by omega
      have w2 : IntKind.i64.wrap (((r.length + 1 + 1 : Nat) : Int) - 2) = (r.length : Int) := by rw [wr _ (by omega) (by omega)]; omega
      have w1 : IntKind.i64.wrap (((r.length + 1 + 1 : Nat) : Int) - 1) = ((r.length + 1 : Nat) : Int) := by rw [wr _ (by omega) (by omega)]; omega
      have q1 : ((r.length : Nat) : Int) < ((r.length + 1 + 1 : Nat) : Int) := by omega
      have q2 : ((r.length + 1 : Nat) : Int) < ((r.length + 1 + 1 : Nat) : Int) := by omega
      have ya : (a : Int) < (l.length : Int) := by omega
      have yb : (b : Int) < (l.length : Int) := by omega
      have yv : (v : Int) < (l.length : Int) := by omega
      by_cases hc : left (l.getD a (0, 0)) (l.getD b (0, 0)) (l.getD v (0, 0)) ≤ 0
      · unfold pts
        refine CWx.r fun K hK => ?_
        simp (maxSteps := 4000000) only [amC, amX, evsA, evpA, elemsA, elemsP, sizedA, optA, refA, consO, Am.get, AV.elem, AV.cells, AV.one, hsetL, hset, hget, loadAV, rowAt?, loadCells', faddrAV, binAV, fillA, storeAV, AV.putCells, AV.ref, List.foldl, List.all, List.map, List.set, List.take, List.drop, Option.getD, Option.map, if_true, if_false, Nat.reduceEqDiff, Nat.reduceAdd, Nat.reduceLT, Nat.reduceLeDiff, reduceCtorEq, ↓reduceIte, pickAV, lenAV, intAV, slcA, slcAV, iaddrAV, extAV, fldAV, eqCells, eqCell, contAV, appendAV, foldAV, maxI, minI, Option.some.injEq, catT, List.length_cons, hnl, p1, w1, w2, q1, q2, ya, yb, yv, Int.natCast_nonneg, Int.toNat_natCast, z0, z1, hpa, hpb, hpv, AV.cells, List.length_map, pt]
        refine RCx.view (fid := 55) (caps := []) rfl rfl rfl (c55' (all_ok hok ba) (all_ok hok bb) okv) rfl ?_
        simp (maxSteps := 4000000) only [amC, amX, evsA, evpA, elemsA, elemsP, sizedA, optA, refA, consO, Am.get, AV.elem, AV.cells, AV.one, hsetL, hset, hget, loadAV, rowAt?, loadCells', faddrAV, binAV, fillA, storeAV, AV.putCells, AV.ref, List.foldl, List.all, List.map, List.set, List.take, List.drop, Option.getD, Option.map, if_true, if_false, Nat.reduceEqDiff, Nat.reduceAdd, Nat.reduceLT, Nat.reduceLeDiff, reduceCtorEq, ↓reduceIte, pickAV, lenAV, intAV, slcA, slcAV, iaddrAV, extAV, fldAV, eqCells, eqCell, contAV, appendAV, foldAV, maxI, minI, Option.some.injEq, catT, hc]
        refine hK _ _ _ (fun _ => rfl) ?_
        clear hK K
        refine CWx.condT rfl (CWx.skip (CWx.go ?_))
        refine CWx.block ?_
        refine CWx.e fun K hK => ?_
        simp (maxSteps := 4000000) only [amC, amX, evsA, evpA, elemsA, elemsP, sizedA, optA, refA, consO, Am.get, AV.elem, AV.cells, AV.one, hsetL, hset, hget, loadAV, rowAt?, loadCells', faddrAV, binAV, fillA, storeAV, AV.putCells, AV.ref, List.foldl, List.all, List.map, List.set, List.take, List.drop, Option.getD, Option.map, if_true, if_false, Nat.reduceEqDiff, Nat.reduceAdd, Nat.reduceLT, Nat.reduceLeDiff, reduceCtorEq, ↓reduceIte, pickAV, lenAV, intAV, slcA, slcAV, iaddrAV, extAV, fldAV, eqCells, eqCell, contAV, appendAV, foldAV, maxI, minI, Option.some.injEq, catT, List.length_cons, w1, Int.natCast_nonneg, Int.toNat_natCast, Int.sub_zero, Int.le_refl, show ((r.length + 1 : Nat) : Int) ≤ ((r.length + 1 + 1 : Nat) : Int) from by omega, Int.toNat_zero]
        refine hK _ _ _ nofun ?_
        clear hK K
        intro al hal
        refine ⟨a :: r, by simp, ⟨?_, ?_, ?_, ?_, ?_⟩, Fgt.ofx hal (Fgt.mk' 2 (by simp) (by simp [keepB, Am.get, AV.lt, ltL, lt_pts, ltL_ix, pts, ltL_pt]) (by simp [hnl]) ⟨rfl, by simp only [Blk.lt, ltL_ix], trivial⟩)⟩
        · have := congrArg (List.take (r.length + 1)) hqz
          rw [List.take_take, Nat.min_eq_left (by omega)] at this
          simp only [List.length_cons]
          rw [this, List.reverse_cons, List.take_append_of_le_length (by simp), List.take_of_length_le (by simp)]
        · exact fun x hx => hqm x (by simp [hx])
        · simp only [List.length_cons]; omega
        · simp only [List.length_cons]; omega
        · rw [← hqp]
          simp only [pop]
          rw [if_pos hc]
      · have hp : pop l v (b :: a :: r) = b :: a :: r := by simp only [pop]; rw [if_neg hc]
        unfold pts
        refine CWx.r fun K hK => ?_
        simp (maxSteps := 4000000) only [amC, amX, evsA, evpA, elemsA, elemsP, sizedA, optA, refA, consO, Am.get, AV.elem, AV.cells, AV.one, hsetL, hset, hget, loadAV, rowAt?, loadCells', faddrAV, binAV, fillA, storeAV, AV.putCells, AV.ref, List.foldl, List.all, List.map, List.set, List.take, List.drop, Option.getD, Option.map, if_true, if_false, Nat.reduceEqDiff, Nat.reduceAdd, Nat.reduceLT, Nat.reduceLeDiff, reduceCtorEq, ↓reduceIte, pickAV, lenAV, intAV, slcA, slcAV, iaddrAV, extAV, fldAV, eqCells, eqCell, contAV, appendAV, foldAV, maxI, minI, Option.some.injEq, catT, List.length_cons, hnl, p1, w1, w2, q1, q2, ya, yb, yv, Int.natCast_nonneg, Int.toNat_natCast, z0, z1, hpa, hpb, hpv, AV.cells, List.length_map, pt]
        refine RCx.view (fid := 55) (caps := []) rfl rfl rfl (c55' (all_ok hok ba) (all_ok hok bb) okv) rfl ?_
        simp (maxSteps := 4000000) only [amC, amX, evsA, evpA, elemsA, elemsP, sizedA, optA, refA, consO, Am.get, AV.elem, AV.cells, AV.one, hsetL, hset, hget, loadAV, rowAt?, loadCells', faddrAV, binAV, fillA, storeAV, AV.putCells, AV.ref, List.foldl, List.all, List.map, List.set, List.take, List.drop, Option.getD, Option.map, if_true, if_false, Nat.reduceEqDiff, Nat.reduceAdd, Nat.reduceLT, Nat.reduceLeDiff, reduceCtorEq, ↓reduceIte, pickAV, lenAV, intAV, slcA, slcAV, iaddrAV, extAV, fldAV, eqCells, eqCell, contAV, appendAV, foldAV, maxI, minI, Option.some.injEq, catT, hc]
        refine hK _ _ _ (fun _ => rfl) ?_
        clear hK K
        obtain ⟨q, hq0⟩ : ∃ q : List Nat, q = b :: a :: r := ⟨_, rfl⟩
        refine CWx.condF rfl (CWx.exit (CWx.go ?_))
        have e0' : r.length + 1 + 1 = q.length := by rw [hq0]; rfl
        rw [← hq0] at hp hqm hqp
        rw [e0'] at hqz hqi hqzl hb
        rw [← hq0] at hqz
        have e1' : (AV.sl 1 i 0 (r.length + 1 + 1)) = .sl 1 i 0 q.length := by rw [← e0']
        rw [e1']
        refine CWx.e fun K hK => ?_
        simp (maxSteps := 4000000) only [amC, amX, evsA, evpA, elemsA, elemsP, sizedA, optA, refA, consO, Am.get, AV.elem, AV.cells, AV.one, hsetL, hset, hget, loadAV, rowAt?, loadCells', faddrAV, binAV, fillA, storeAV, AV.putCells, AV.ref, List.foldl, List.all, List.map, List.set, List.take, List.drop, Option.getD, Option.map, if_true, if_false, Nat.reduceEqDiff, Nat.reduceAdd, Nat.reduceLT, Nat.reduceLeDiff, reduceCtorEq, ↓reduceIte, pickAV, lenAV, intAV, slcA, slcAV, iaddrAV, extAV, fldAV, eqCells, eqCell, contAV, appendAV, foldAV, maxI, minI, Option.some.injEq, catT, sizedA, elem_int, AV.cells, beq_self_eq_true, Bool.and_self, hb, hqzl, List.isEmpty_cons, ix_length, Nat.reduceBEq, true_or, or_true]
        refine hK _ _ _ nofun ?_
        clear hK K
        refine CWx.go ?_
        refine CWx.e fun K hK => ?_
        simp (maxSteps := 4000000) only [amC, amX, evsA, evpA, elemsA, elemsP, sizedA, optA, refA, consO, Am.get, AV.elem, AV.cells, AV.one, hsetL, hset, hget, loadAV, rowAt?, loadCells', faddrAV, binAV, fillA, storeAV, AV.putCells, AV.ref, List.foldl, List.all, List.map, List.set, List.take, List.drop, Option.getD, Option.map, if_true, if_false, Nat.reduceEqDiff, Nat.reduceAdd, Nat.reduceLT, Nat.reduceLeDiff, reduceCtorEq, ↓reduceIte, pickAV, lenAV, intAV, slcA, slcAV, iaddrAV, extAV, fldAV, eqCells, eqCell, contAV, appendAV, foldAV, maxI, minI, Option.some.injEq, catT, wrap_nat i (by omega)]
        refine hK _ _ _ nofun ?_
        clear hK K
        intro al hal
        have hlen2 : (v :: pop l v st).length = q.length + 1 := by rw [← hqp, hp]; rfl
        refine ⟨(i + 1, v :: pop l v st, (v :: pop l v st).reverse), by simp only; omega, ⟨by simp only; omega, ?_, ?_, ?_, ?_, ?_⟩, Fgt.ofx hal (Fgt.mk' 2 (by simp) ?_ ?_ ⟨rfl, by simp only [Blk.lt, ltL_ix], trivial⟩)⟩
        · exact List.take_of_length_le (by simp)
        · intro x hx
          rcases List.mem_cons.1 hx with rfl | hx
          · exact hov
          · exact pop_mem st hm x hx
        · simp only [hlen2]; omega
        · simp
        · simp only
          rw [foldl_take_succ _ _ _ hvo, ← hst]
        · simp only [hlen2]
          simp [keepB, Am.get, AV.lt, ltL, lt_pts, ltL_ix, pts, ltL_pt]
        · simp [ix_take, hqz, ← hqp, hp]
          simp [ix]
  · refine CWx.r fun K hK => ?_
    simp (maxSteps := 4000000) only [amC, amX, evsA, evpA, elemsA, elemsP, sizedA, optA, refA, consO, Am.get, AV.elem, AV.cells, AV.one, hsetL, hset, hget, loadAV, rowAt?, loadCells', faddrAV, binAV, fillA, storeAV, AV.putCells, AV.ref, List.foldl, List.all, List.map, List.set, List.take, List.drop, Option.getD, Option.map, if_true, if_false, Nat.reduceEqDiff, Nat.reduceAdd, Nat.reduceLT, Nat.reduceLeDiff, reduceCtorEq, ↓reduceIte, pickAV, lenAV, intAV, slcA, slcAV, iaddrAV, extAV, fldAV, eqCells, eqCell, contAV, appendAV, foldAV, maxI, minI, Option.some.injEq, catT, h]
    refine hK _ _ _ nofun ?_
    clear hK K
    refine CWx.seq ?_
    refine CWx.condF rfl (CWx.exit (CWx.go ?_))
    have hio : i = ord.length := by omega
    have hst2 : st = chainS l ord := by rw [hst, hio, List.take_length]; rfl
    have hpos : 0 < st.length := by
      rw [hst2]
      exact chain_pos ord [] hne
    have w1 : IntKind.i64.wrap ((st.length : Int) - 1) = ((st.length - 1 : Nat) : Int) := by rw [wr _ (by omega) (by omega)]; omega
    refine CWx.r fun K hK => ?_
    simp (maxSteps := 4000000) only [amC, amX, evsA, evpA, elemsA, elemsP, sizedA, optA, refA, consO, Am.get, AV.elem, AV.cells, AV.one, hsetL, hset, hget, loadAV, rowAt?, loadCells', faddrAV, binAV, fillA, storeAV, AV.putCells, AV.ref, List.foldl, List.all, List.map, List.set, List.take, List.drop, Option.getD, Option.map, if_true, if_false, Nat.reduceEqDiff, Nat.reduceAdd, Nat.reduceLT, Nat.reduceLeDiff, reduceCtorEq, ↓reduceIte, pickAV, lenAV, intAV, slcA, slcAV, iaddrAV, extAV, fldAV, eqCells, eqCell, contAV, appendAV, foldAV, maxI, minI, Option.some.injEq, catT, w1, Int.natCast_nonneg, Int.toNat_natCast, Int.sub_zero, Int.le_refl, Int.toNat_zero, show ((st.length - 1 : Nat) : Int) ≤ (st.length : Int) from by omega]
    refine hK _ _ _ nofun ?_
    clear hK K
    have hi0 : decide (i = 0) = false := by
      simp
      rintro rfl
      exact hne (List.eq_nil_of_length_eq_zero hio.symm)
    have hzz : zs = (chainS l ord).reverse := by rw [← hst2, ← hz, ← hzl, List.take_length]
    refine CWx.ret fun al hal => finK_ext hal (finK_new (.inr rfl) (xs := [.sl 1 i 0 (st.length - 1)]) (b := 1) (g := i) (nil := false) (ys := ix (chainS l ord).reverse) (by simp [resRV, Am.get]) (by simp only [hget, List.getElem?_cons_succ, List.getElem?_cons_zero, Option.getD_some, hi0, hzz]) (allRL_ix _ _ _) ?_ ?_)
    · simp [tupAV, AV.allR, sigP]
    · simp [tupAV, AV.mapR, sigF, hst2]
end Go.Hull
