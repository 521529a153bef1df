/- Rules for lists of points and of numbers, by which the driver goes; the first walks with it.
   Conditions: the points are in range. -/
import Derived.Test.YtkbpkbjfphdgeaaPart9
section
set_option linter.unusedSimpArgs false
set_option linter.unusedVariables false
set_option maxHeartbeats 4000000
namespace Go.Hull
open Go Go.Am Go.Proofs

theorem viewG_ixT {hl : List Blk} {b g k : Nat} {nil frz : Bool} {xs v : List Nat} (hb : hget hl b = .row nil g frz 1 (ix xs)) (hv : xs.take k = v) (h : k ≤ xs.length) : viewG hl 6 (.sl b g 0 k) = some (ixV v, [b]) := by
  have := viewG_ix (i := 0) (k := k) hb (by omega)
  rw [List.drop_zero, hv] at this
  exact this
theorem viewG_ptsL {hl : List Blk} {b g k : Nat} {nil frz : Bool} {xs : List Pt} (hb : hget hl b = .row nil g frz 2 (xs.map pt)) (h : k = xs.length) : viewG hl 6 (.sl b g 0 k) = some (pts xs, [b]) := by
  have := viewG_pts (i := 0) (k := k) hb (by omega)
  rw [List.drop_zero, List.take_of_length_le (by omega)] at this
  exact this
theorem ltL_append (m : Nat) (a b : List AV) : ltL m (a ++ b) = (ltL m a && ltL m b) := by
  induction a with
  | nil => rfl
  | cons x a ih => simp only [List.cons_append, ltL, ih, Bool.and_assoc]
theorem len_pts (l : List Pt) : lenAV (pts l) = some (.int .i64 (l.length : Int)) := by simp [pts, lenAV]
theorem ia_pts (h : Nat → Blk) (l : List Pt) (k : Int) (hk : 0 ≤ k ∧ k < (l.length : Int)) : iaddrAV h 2 k (pts l) = some (.rp false [.int .i64 (P l k.toNat).1, .int .i64 (P l k.toNat).2]) := by
  have h1 : k.toNat < l.length := by omega
  simp only [pts, iaddrAV, List.length_map, true_and, if_pos hk, get_pts (getp h1), Option.map_some, AV.cells, pt, P]
theorem ia_ptsD (h : Nat → Blk) (l : List Pt) (n : Nat) (k : Int) (hk : 0 ≤ k ∧ k < ((l.length - n : Nat) : Int)) : iaddrAV h 2 k (pts (l.drop n)) = some (.rp false [.int .i64 (P l (n + k.toNat)).1, .int .i64 (P l (n + k.toNat)).2]) := by
  rw [ia_pts h (l.drop n) k ⟨hk.1, by rw [List.length_drop]; exact hk.2⟩]
  simp only [P, List.getD_eq_getElem?_getD, List.getElem?_drop]
theorem cells_pt (p : Pt) : (pt p).cells = [.int .i64 p.1, .int .i64 p.2] := rfl
theorem ref_pts (l : List Pt) : (pts l).ref = [] := rfl
theorem ref_pt (p : Pt) : (pt p).ref = [] := rfl
theorem ref_ixV (v : List Nat) : (ixV v).ref = [] := rfl
theorem cont_ixV (h : Nat → Blk) (v : List Nat) : contAV h 1 (ixV v) = some (ix v) := rfl
theorem cont_pts (h : Nat → Blk) (l : List Pt) : contAV h 2 (pts l) = some (l.map pt) := rfl
theorem eqvA_pt (neg : Bool) (p q : Pt) : eqvA neg true [.i, .i] (pt p) (pt q) = some { v := .bool (if neg then !(decide (p = q)) else decide (p = q)) } := by
  have h : (p.1 == q.1 && (p.2 == q.2 && true)) = decide (p = q) := by
    obtain ⟨a, b⟩ := p
    obtain ⟨c, d⟩ := q
    simp [Prod.mk.injEq, ← Bool.decide_and]
    by_cases h1 : a = c <;> by_cases h2 : b = d <;> simp [h1, h2]
  simp only [eqvA, pt, eqCells, eqCell, if_true, Option.map_some]
  rw [h]
theorem put_pt (p : Pt) (a b : Int) : (pt p).putCells 0 [.int .i64 a, .int .i64 b] = pt (a, b) := rfl
theorem put_pt0 (p : Pt) (a : Int) : (pt p).putCells 0 [.int .i64 a] = pt (a, p.2) := rfl
theorem put_pt1 (p : Pt) (a : Int) : (pt p).putCells 1 [.int .i64 a] = pt (p.1, a) := rfl
theorem elem_pt (p : Pt) : (pt p).elem = true := rfl
theorem pair_eta (p : Pt) : (p.1, p.2) = p := rfl
theorem fold_pt2 (a b : Int) : AV.agg [.int .i64 a, .int .i64 b] = pt (a, b) := rfl
theorem elem_pts (l : List Pt) : (pts l).elem = true := rfl
theorem cells_pts (l : List Pt) : (pts l).cells = [pts l] := rfl
theorem elem_ixV (l : List Nat) : (ixV l).elem = true := rfl
theorem cells_ixV (l : List Nat) : (ixV l).cells = [ixV l] := rfl
theorem len_ixV (v : List Nat) : lenAV (ixV v) = some (.int .i64 (v.length : Int)) := by simp [ixV, lenAV, ix_length]
theorem ia_ixV (h : Nat → Blk) (v : List Nat) (k : Int) (hk : 0 ≤ k ∧ k < (v.length : Int)) : iaddrAV h 1 k (ixV v) = some (.rp false [.int .i64 ((v.getD k.toNat 0 : Nat) : Int)]) := by
  have h1 : k.toNat < v.length := by omega
  simp only [ixV, iaddrAV, ix_length, true_and, if_pos hk, ix_get v h1, Option.map_some, AV.cells, pt, P]
theorem ixg (v : List Nat) (k : Nat) (h : k < v.length) : (ix v)[k]? = some (.int .i64 ((v.getD k 0 : Nat) : Int)) := ix_get v h
theorem ptsg (l : List Pt) (k : Nat) (h : k < l.length) : (l.map pt)[k]? = some (pt (P l k)) := get_pts (getp h)
theorem one_ix (n : Nat) : AV.one (.int .i64 (n : Int)) = true := rfl
theorem ix_snoc (xs : List Nat) (n : Nat) : ix xs ++ [AV.int .i64 (n : Int)] = ix (xs ++ [n]) := by simp [ix]
theorem pts_snoc (l : List Pt) (p : Pt) : l.map pt ++ [pt p] = (l ++ [p]).map pt := by simp
theorem slc_ixV (h : List Blk) (v : List Nat) (a : Nat) (ha : a ≤ v.length) : slcA h 1 (some (a : Int)) none (ixV v) = some ⟨ixV (v.drop a), []⟩ := by
  simp only [slcA, ixV, slcAV, if_true, Option.getD_some, Option.getD_none, ix_length]
  rw [if_pos (by omega)]
  simp only [Option.map_some, Int.toNat_natCast, ix_drop, ix_take]
  rw [List.take_of_length_le (by simp)]
theorem slc_pts (h : List Blk) (v : List Pt) (a : Nat) (ha : a ≤ v.length) : slcA h 2 (some (a : Int)) none (pts v) = some ⟨pts (v.drop a), []⟩ := by
  simp only [slcA, pts, slcAV, if_true, Option.getD_some, Option.getD_none, List.length_map]
  rw [if_pos (by omega)]
  simp only [Option.map_some, Int.toNat_natCast]
  rw [← List.map_drop, List.take_of_length_le (by simp; try omega)]
def topN (l : List Pt) (d : Pt) : Nat → Int
  | 0 => dot (P l 0) d
  | i + 1 => maxI (topN l d i) (dot (P l i) d)
theorem ok_small {p : Pt} (h : okP p = true) : smallV p := by
  obtain ⟨⟨a, b⟩, c, d⟩ := okP_iff.1 h
  exact ⟨⟨by omega, by omega⟩, by omega, by omega⟩
theorem c61 (l : List Pt) (d : Pt) (hl : 0 < l.length) (hn : l.length < 4611686018427387904) (hs : ∀ p ∈ l, smallV p) (hd : smallV d) :
    CallsF Try.prog 61 [pts l, pt d] [] (.int .i64 (topN l d l.length)) [] := by
  have hsm : ∀ k, k < l.length → smallV (P l k) := fun k hk => hs _ (P_mem hk)
  refine callsF_cwx hm hf61 (by simp [cf61]) ?_
  simp only [cf61, argsAl]
  repeat' first
    | (refine hK _ _ _ (by first | exact fun h => Bool.noConfusion h | exact fun _ => rfl) ?_; clear hK K)
    | (refine CWx.r fun K hK => ?_; simp (maxSteps := 4000000) (disch := omega) only [dr0, dr1, dr2, evsA, evpA, elemsA, elemsP, sizedA, optA, refA, consO, Am.get, hsetL, hset, hget, rowAt?, loadCells', fillA, List.foldl, List.all, List.map, List.set, List.take, List.drop, Option.getD, Option.map, if_true, if_false, Nat.reduceEqDiff, Int.reduceToNat, Nat.reduceAdd, Nat.reduceMul, Nat.reduceLT, Nat.reduceLeDiff, reduceCtorEq, ↓reduceIte, eqCells, foldAV, Option.some.injEq, catT, put_pt, put_pt0, put_pt1, ref_pts, ref_pt, ref_ixV, eqvA_pt, cont_ixV, cont_pts, len_pts, ia_ptsD, ia_pts, cells_pt, elem_pt, fold_pt2, pair_eta, len_ixV, ia_ixV, ix_length, ix_append, ix_take, ix_drop, wr62, natAdd1, natAddN, natSub1, natSubN, tmodN, tdivN, toNat_cast, Int.toNat_zero, Int.natCast_nonneg, ixg, ptsg, appB, if_pos, if_neg, List.isEmpty_nil, List.isEmpty_cons, elem_pts, cells_pts, elem_ixV, cells_ixV, Bool.or_self, Bool.false_or, Bool.or_false, or_true, true_or, Bool.false_and, not_true_eq_false, not_false_eq_true, one_ix, gX_tt, gX_ff, gX_tf, gX_ft, beq_self_eq_true, all_ix, ix_snoc, pts_snoc, bne_self_eq_false, ← List.map_take, ← List.map_drop, List.take_take, Nat.min_self, List.length_map, List.length_take,  slc_ixV, slc_pts])
    | refine CWx.go ?_
    | (apply RCx.view (fid := 56) (caps := []) rfl rfl; (focus ((simp only [evsA, evA_t, evA_c, Am.get, Nat.reduceEqDiff, ↓reduceIte, List.nil_append, List.cons_append, List.append_nil]; repeat' first | exact viewArgs_nil | apply viewArgs_cons | exact viewG_flat (flat_pts _ _) _ | exact viewG_flat (flat_ixV _ _) _ | exact viewG_ixT rfl (by assumption) (by omega) | exact viewG_ptsL rfl (by first | omega | (simp; done) | (simp; omega)) | exact viewG_ix rfl (by first | omega | (simp; omega)) | exact viewG_flat rfl _; done))); (focus (refine c56' (hsm _ ?_) hd <;> first | omega | assumption)); (focus rfl); simp (maxSteps := 4000000) (disch := omega) only [dr0, dr1, dr2, evsA, evpA, elemsA, elemsP, sizedA, optA, refA, consO, Am.get, hsetL, hset, hget, rowAt?, loadCells', fillA, List.foldl, List.all, List.map, List.set, List.take, List.drop, Option.getD, Option.map, if_true, if_false, Nat.reduceEqDiff, Int.reduceToNat, Nat.reduceAdd, Nat.reduceMul, Nat.reduceLT, Nat.reduceLeDiff, reduceCtorEq, ↓reduceIte, eqCells, foldAV, Option.some.injEq, catT, put_pt, put_pt0, put_pt1, ref_pts, ref_pt, ref_ixV, eqvA_pt, cont_ixV, cont_pts, len_pts, ia_ptsD, ia_pts, cells_pt, elem_pt, fold_pt2, pair_eta, len_ixV, ia_ixV, ix_length, ix_append, ix_take, ix_drop, wr62, natAdd1, natAddN, natSub1, natSubN, tmodN, tdivN, toNat_cast, Int.toNat_zero, Int.natCast_nonneg, ixg, ptsg, appB, if_pos, if_neg, List.isEmpty_nil, List.isEmpty_cons, elem_pts, cells_pts, elem_ixV, cells_ixV, Bool.or_self, Bool.false_or, Bool.or_false, or_true, true_or, Bool.false_and, not_true_eq_false, not_false_eq_true, one_ix, gX_tt, gX_ff, gX_tf, gX_ft, beq_self_eq_true, all_ix, ix_snoc, pts_snoc, bne_self_eq_false, ← List.map_take, ← List.map_drop, List.take_take, Nat.min_self, List.length_map, List.length_take,  slc_ixV, slc_pts])
    | (refine gX_split (fun hb => ?_) (fun hb => ?_) <;> (try simp only [hb]) <;> (try simp only [decide_eq_true_eq, decide_eq_false_iff_not, beq_iff_eq, bne_iff_ne, ne_eq, Bool.not_eq_true, Bool.not_eq_false, beq_eq_false_iff_ne, bne_eq_false_iff_eq, Decidable.not_not, Bool.not_eq_eq_eq_not, Bool.not_true, Bool.not_false, Bool.true_eq_false, Bool.false_eq_true, Int.not_lt, Int.not_le, Bool.and_eq_true, Bool.and_eq_false_iff, Bool.or_eq_true, Bool.or_eq_false_iff, reduceCtorEq] at hb) <;> simp (maxSteps := 4000000) (disch := omega) only [dr0, dr1, dr2, evsA, evpA, elemsA, elemsP, sizedA, optA, refA, consO, Am.get, hsetL, hset, hget, rowAt?, loadCells', fillA, List.foldl, List.all, List.map, List.set, List.take, List.drop, Option.getD, Option.map, if_true, if_false, Nat.reduceEqDiff, Int.reduceToNat, Nat.reduceAdd, Nat.reduceMul, Nat.reduceLT, Nat.reduceLeDiff, reduceCtorEq, ↓reduceIte, eqCells, foldAV, Option.some.injEq, catT, put_pt, put_pt0, put_pt1, ref_pts, ref_pt, ref_ixV, eqvA_pt, cont_ixV, cont_pts, len_pts, ia_ptsD, ia_pts, cells_pt, elem_pt, fold_pt2, pair_eta, len_ixV, ia_ixV, ix_length, ix_append, ix_take, ix_drop, wr62, natAdd1, natAddN, natSub1, natSubN, tmodN, tdivN, toNat_cast, Int.toNat_zero, Int.natCast_nonneg, ixg, ptsg, appB, if_pos, if_neg, List.isEmpty_nil, List.isEmpty_cons, elem_pts, cells_pts, elem_ixV, cells_ixV, Bool.or_self, Bool.false_or, Bool.or_false, or_true, true_or, Bool.false_and, not_true_eq_false, not_false_eq_true, one_ix, gX_tt, gX_ff, gX_tf, gX_ft, beq_self_eq_true, all_ix, ix_snoc, pts_snoc, bne_self_eq_false, ← List.map_take, ← List.map_drop, List.take_take, Nat.min_self, List.length_map, List.length_take,  slc_ixV, slc_pts])
    | (refine CWx.br rfl (fun hb => ?_) (fun hb => ?_) <;> first | exact Bool.noConfusion hb | (first | (simp only [decide_eq_true_eq, decide_eq_false_iff_not, beq_iff_eq, bne_iff_ne, ne_eq, Bool.not_eq_true, Bool.not_eq_false, beq_eq_false_iff_ne, bne_eq_false_iff_eq, Decidable.not_not, Bool.not_eq_eq_eq_not, Bool.not_true, Bool.not_false, Bool.true_eq_false, Bool.false_eq_true, Int.not_lt, Int.not_le, Bool.and_eq_true, Bool.and_eq_false_iff, Bool.or_eq_true, Bool.or_eq_false_iff, reduceCtorEq] at hb; done) | ((try simp only [decide_eq_true_eq, decide_eq_false_iff_not, beq_iff_eq, bne_iff_ne, ne_eq, Bool.not_eq_true, Bool.not_eq_false, beq_eq_false_iff_ne, bne_eq_false_iff_eq, Decidable.not_not, Bool.not_eq_eq_eq_not, Bool.not_true, Bool.not_false, Bool.true_eq_false, Bool.false_eq_true, Int.not_lt, Int.not_le, Bool.and_eq_true, Bool.and_eq_false_iff, Bool.or_eq_true, Bool.or_eq_false_iff, reduceCtorEq] at hb); first | contradiction | skip)))
    | (refine CWx.e fun K hK => ?_; simp (maxSteps := 4000000) (disch := omega) only [dr0, dr1, dr2, evsA, evpA, elemsA, elemsP, sizedA, optA, refA, consO, Am.get, hsetL, hset, hget, rowAt?, loadCells', fillA, List.foldl, List.all, List.map, List.set, List.take, List.drop, Option.getD, Option.map, if_true, if_false, Nat.reduceEqDiff, Int.reduceToNat, Nat.reduceAdd, Nat.reduceMul, Nat.reduceLT, Nat.reduceLeDiff, reduceCtorEq, ↓reduceIte, eqCells, foldAV, Option.some.injEq, catT, put_pt, put_pt0, put_pt1, ref_pts, ref_pt, ref_ixV, eqvA_pt, cont_ixV, cont_pts, len_pts, ia_ptsD, ia_pts, cells_pt, elem_pt, fold_pt2, pair_eta, len_ixV, ia_ixV, ix_length, ix_append, ix_take, ix_drop, wr62, natAdd1, natAddN, natSub1, natSubN, tmodN, tdivN, toNat_cast, Int.toNat_zero, Int.natCast_nonneg, ixg, ptsg, appB, if_pos, if_neg, List.isEmpty_nil, List.isEmpty_cons, elem_pts, cells_pts, elem_ixV, cells_ixV, Bool.or_self, Bool.false_or, Bool.or_false, or_true, true_or, Bool.false_and, not_true_eq_false, not_false_eq_true, one_ix, gX_tt, gX_ff, gX_tf, gX_ft, beq_self_eq_true, all_ix, ix_snoc, pts_snoc, bne_self_eq_false, ← List.map_take, ← List.map_drop, List.take_take, Nat.min_self, List.length_map, List.length_take,  slc_ixV, slc_pts])
    | (refine CWx.block (id := 0) ?_; refine CWx.loopK (ι := Nat) [3, 13, 14] (fun i => l.length - i) (fun i => [(15, .int .i64 (i : Int)), (5, .int .i64 (topN l d i))]) (fun i => [.row false 0 false 2 [pt d]]) (fun i => i ≤ l.length) (fun i => by simp only [keepA, Am.get, List.cons_append, List.nil_append, Nat.reduceEqDiff, ↓reduceIte]; exact rfl) (0) ?_ ?_ (fun i hi => ?_); (focus ((try dsimp only); first | trivial | omega | (refine ⟨?_, ?_⟩ <;> first | omega | trivial | simp_all) | simp_all)); (focus (refine Fgt.mk' 1 (by simp) ?_ ?_ ?_ <;> simp [-List.map_take, -List.map_map, AV.isY, ltL_append, keepB, Am.get, AV.lt, ltL, lt_pts, lt_pt, lt_ixV, ltL_ix, ltL_pt, Blk.lt, ltB, topN])); (skip))
    | refine CWx.seq ?_
    | refine CWx.block (id := 1) ?_
    | refine CWx.skip ?_
    | refine CWx.exit ?_
    | (refine CWx.ret fun al hal => finK_ext hal (finK_pure (.inr rfl) (by simp only [resRV, Am.get, Nat.reduceEqDiff, ↓reduceIte]; exact rfl) ?_ (by first | rfl | simp [AV.allR, allRL])); first | (rfl; done) | ((simp only [tupAV]; congr <;> omega); done) | (simp [tupAV, *]; done))
    | (intro al hal; refine ⟨i + 1, ?_, ?_, Fgt.ofx hal ?_⟩; (focus (first | omega | (dsimp only; omega))); (focus ((try dsimp only); first | trivial | omega | (refine ⟨?_, ?_⟩ <;> first | omega | trivial | simp_all) | simp_all; done)); (focus (refine Fgt.mk' 1 (by simp) ?_ ?_ ?_ <;> simp [-List.map_take, -List.map_map, AV.isY, ltL_append, keepB, Am.get, AV.lt, ltL, lt_pts, lt_pt, lt_ixV, ltL_ix, ltL_pt, Blk.lt, ltB, topN, topN]; done)))
theorem chk_ok {l : List Pt} (h : chk l = 0) : l.all okP = true := by
  unfold chk at h
  split at h
  · cases h
  · by_cases h' : l.all okP = true
    · exact h'
    · rw [if_neg h'] at h; cases h
theorem ok_P {l : List Pt} (h : l.all okP = true) : ∀ k, k < l.length → okP (P l k) = true := fun k hk => all_ok h hk
theorem ren_row_pt (σ : Nat → Nat) (n f : Bool) (g s : Nat) (zs : List Pt) : (Blk.row n g f s (zs.map pt)).ren σ = .row n g f s (zs.map pt) := by simp only [Blk.ren, renL_id (zs.map pt) (ltL_pt _ _)]
theorem clean_ptr (n f : Bool) (g s : Nat) (zs : List Pt) : (Blk.row n g f s (zs.map pt)).clean = true := by simp only [Blk.clean, clean_pts]
theorem allUp {A : Nat → Prop} {i : Nat} (h : ∀ j, j < i → A j) (hi : A i) : ∀ j, j < i + 1 → A j := fun j hj => by
  by_cases e : j = i
  · rw [e]; exact hi
  · exact h j (by omega)
end Go.Hull
end
section
set_option linter.unusedSimpArgs false
set_option linter.unusedVariables false
set_option linter.defProp false
namespace Go.Am
open Go Go.RowKit

abbrev KY := List (Nat × AV) → List Blk → Option Exit → Prop
structure YCx (P : Program) (Y : Hdl) (f : Opd) (xs : List Opd) (dst : Option Nat) (bef : Nat) (l : List (Nat × AV)) (hl : List Blk) (st : Option Exit) (next : KY) : Prop where
  run : (evA l f = .yld ∧ st = none ∧ Y (evsA l xs) hl (fun res hl' => next (consO l dst (.bool res.isNone)) hl' res)) ∨ RCx P f xs dst bef l hl [] fun l hl _ => next l hl st
def RunYX (P : Program) (Y : Hdl) : List COp → List (Nat × AV) → List Blk → Option Exit → KY → Prop
  | [], l, hl, st, K => K l hl st
  | c :: cs, l, hl, st, K => match wantedA l c.guard with
    | none => False
    | some false => RunYX P Y cs (consO l c.dst (.tup [])) hl st K
    | some true => match c.op with
      | .call f xs => YCx P Y f xs c.dst c.bef l hl st fun l hl st => RunYX P Y cs l hl st K
      | op => match aopA op l hl with
        | none => False
        | some r => RunYX P Y cs (consO l c.dst r.v) (hsetL hl r.ups) st K
structure RYX (P : Program) (Y : Hdl) (ops : List COp) (l : List (Nat × AV)) (hl : List Blk) (st : Option Exit) (K : KY) : Prop where
  run : RunYX P Y ops l hl st K
theorem RYX_eq (P : Program) (Y : Hdl) (ops : List COp) (l : List (Nat × AV)) (hl : List Blk) (st : Option Exit) (K : KY) : RYX P Y ops l hl st K = RunYX P Y ops l hl st K := propext ⟨fun h => h.run, fun h => ⟨h⟩⟩
theorem RunYX.sound {P : Program} {Y : Hdl} (hY : Y.Mono) : ∀ (cs : List COp) (l : List (Nat × AV)) (hl : List Blk) (st : Option Exit) (K : KY), RunYX P Y cs l hl st K → ∀ al, get al = get l → RunY P Y cs al hl st fun s' st' => ∃ l', get s'.al = get l' ∧ K l' s'.hl st' := by
  intro cs
  induction cs with
  | nil => intro l hl st K h al hal; exact ⟨l, hal, h⟩
  | cons c cs ih =>
    intro l hl st K h al hal
    obtain ⟨op, dst, guard, bef⟩ := c
    have key : ∀ b, wantedA l guard = some b → wantedAV (get al) guard = some b := fun b hb => by
      unfold wantedA at hb
      unfold wantedAV
      cases guard with
      | none => exact hb
      | some q => obtain ⟨d, w⟩ := q; simp only [hal]; exact hb
    simp only [RunYX] at h
    simp only [RunY]
    cases hw : wantedA l guard with
    | none => rw [hw] at h; exact h.elim
    | some b =>
      rw [hw] at h
      rw [key b hw]
      cases b with
      | false => exact ih _ _ _ _ h _ (get_consO hal dst _)
      | true =>
        cases hc : isCall op with
        | true =>
          obtain ⟨f, xs, rfl⟩ : ∃ f xs, op = .call f xs := by cases op <;> first | (cases hc; done) | exact ⟨_, _, rfl⟩
          rcases h.run with ⟨h1, h2, h3⟩ | h1
          · refine .inl ⟨by rw [hal, evA_eq]; exact h1, h2, ?_⟩
            have : xs.map (·.ev (get al)) = evsA l xs := by rw [hal]; exact evsA_eq l xs
            simp only [this]
            exact hY _ _ _ _ (fun r hl' h4 => ih _ _ _ _ h4 _ (get_consO hal dst _)) h3
          · obtain ⟨fid, caps, T, r, W, h1, h2, h3, h4⟩ := h1.run
            exact .inr ⟨fid, caps, T, r, W, by rw [hal]; exact h1, by rw [hal]; exact h2, h3, ih _ _ _ _ h4 _ (get_consO hal dst r)⟩
        | false =>
          have h' : (match aopA op l hl with
            | none => False
            | some r => RunYX P Y cs (consO l dst r.v) (hsetL hl r.ups) st K) := by
            cases op <;> first | (cases hc; done) | exact h
          have e : aop op (get al) (hget hl) hl.length = aopA op l hl := by unfold aopA; rw [hal]
          have goal : (match aop op (get al) (hget hl) hl.length with
            | none => False
            | some r => RunY P Y cs (setO al dst r.v) (hsetL hl r.ups) st fun s' st' => ∃ l', get s'.al = get l' ∧ K l' s'.hl st') := by
            rw [e]
            cases hr : aopA op l hl with
            | none => rw [hr] at h'; exact h'.elim
            | some r => rw [hr] at h'; exact ih _ _ _ _ h' _ (get_consO hal dst r.v)
          cases op <;> first | (cases hc; done) | exact goal
structure CY (P : Program) (m0 : Nat) (Y : Hdl) (c : CCode) (s : St) (st : Option Exit) (K : Exit → St → Option Exit → Prop) : Prop where
  run : Y.Mono → YWp P m0 Y c s st K
structure CYx (P : Program) (m0 : Nat) (Y : Hdl) (c : CCode) (l : List (Nat × AV)) (hl : List Blk) (st : Option Exit) (K : Exit → St → Option Exit → Prop) : Prop where
  run : ∀ al, get al = get l → CY P m0 Y c ⟨al, hl⟩ st K
section
variable {P : Program} {m0 : Nat} {Y : Hdl} {K : Exit → St → Option Exit → Prop} {st : Option Exit}
theorem CY.seq {x y : CCode} {s : St} (h : CY P m0 Y x s st (ythenK K fun s' st' => CY P m0 Y y s' st' K)) : CY P m0 Y (.seq x y) s st K :=
  ⟨fun hY => YWp.mono hY x s st (fun e s' t h => by cases e <;> first | exact CY.run h hY | exact h) (h.run hY)⟩
theorem CYx.seq {x y : CCode} {l : List (Nat × AV)} {hl : List Blk} (h : CYx P m0 Y x l hl st (ythenK K fun s' st' => CY P m0 Y y s' st' K)) : CYx P m0 Y (.seq x y) l hl st K := ⟨fun al hal => CY.seq (h.run al hal)⟩
theorem CYx.block {id : Nat} {c : CCode} {l : List (Nat × AV)} {hl : List Blk} (h : CYx P m0 Y c l hl st (yblockK id K)) : CYx P m0 Y (.block id c) l hl st K := ⟨fun al hal => ⟨fun hY => (h.run al hal).run hY⟩⟩
theorem CYx.skip {l : List (Nat × AV)} {hl : List Blk} (h : ∀ al, get al = get l → K .normal ⟨al, hl⟩ st) : CYx P m0 Y .skip l hl st K := ⟨fun al hal => ⟨fun _ => h al hal⟩⟩
theorem CYx.exit {id : Nat} {l : List (Nat × AV)} {hl : List Blk} (h : ∀ al, get al = get l → K (.exit id) ⟨al, hl⟩ st) : CYx P m0 Y (.exit id) l hl st K := ⟨fun al hal => ⟨fun _ => h al hal⟩⟩
theorem CYx.ret {l : List (Nat × AV)} {hl : List Blk} (h : ∀ al, get al = get l → K .ret ⟨al, hl⟩ st) : CYx P m0 Y .ret l hl st K := ⟨fun al hal => ⟨fun _ => h al hal⟩⟩
theorem CYx.go {y : CCode} {l : List (Nat × AV)} {hl : List Blk} (h : CYx P m0 Y y l hl st K) : ∀ al, get al = get l → CY P m0 Y y ⟨al, hl⟩ st K := fun al hal => h.run al hal
theorem CYx.br {c : Opd} {x y : CCode} {l : List (Nat × AV)} {hl : List Blk} {b : Bool} (hc : evA l c = .bool b) (h1 : b = true → CYx P m0 Y x l hl st K) (h2 : b = false → CYx P m0 Y y l hl st K) : CYx P m0 Y (.cond c x y) l hl st K := ⟨fun al hal => ⟨fun hY => by
  have e : c.ev (get al) = .bool b := by rw [hal, evA_eq]; exact hc
  cases b with
  | true => simp only [YWp, e]; exact ((h1 rfl).run al hal).run hY
  | false => simp only [YWp, e]; exact ((h2 rfl).run al hal).run hY⟩⟩
theorem CYx.r {ops : List COp} {y : CCode} {l : List (Nat × AV)} {hl : List Blk} (h : ∀ K' : KY, (∀ l hl st, CYx P m0 Y y l hl st K → K' l hl st) → RYX P Y ops l hl st K') : CYx P m0 Y (.seq (.region false ops) y) l hl st K := ⟨fun al hal => ⟨fun hY => by
  have := RunYX.sound hY _ _ _ _ _ (h (fun l hl st => CYx P m0 Y y l hl st K) (fun l hl st h => h)).run al hal
  simp only [YWp, Bool.false_eq_true, if_false]
  exact RunY.mono hY _ _ _ _ (fun s t ⟨l', e, h1⟩ => (h1.run s.al e).run hY) this⟩⟩
theorem CYx.e {ops : List COp} {l : List (Nat × AV)} {hl : List Blk} (h : ∀ K' : KY, (∀ l hl st, (∀ al, get al = get l → K .normal ⟨al, hl⟩ st) → K' l hl st) → RYX P Y ops l hl st K') : CYx P m0 Y (.region false ops) l hl st K := ⟨fun al hal => ⟨fun hY => by
  have := RunYX.sound hY _ _ _ _ _ (h (fun l hl st => ∀ al, get al = get l → K .normal ⟨al, hl⟩ st) (fun l hl st h => h)).run al hal
  simp only [YWp, Bool.false_eq_true, if_false]
  exact RunY.mono hY _ _ _ _ (fun s t ⟨l', e, h1⟩ => h1 s.al e) this⟩⟩
/-- A loop in an iterator; what was yielded hasn't ended the loop outside. -/
theorem CYx.loopK {ι : Type} {c : CCode} {l : List (Nat × AV)} {hl : List Blk} (ks : List Nat) (μ : ι → Nat) (f : ι → List (Nat × AV)) (g : ι → List Blk) (Q : ι → Prop) {L : ι → List (Nat × AV)} (hL : ∀ i, f i ++ keepA l ks = L i)
    (i0 : ι) (hq : Q i0) (hs : Fgt m0 ⟨l, hl⟩ ⟨L i0, g i0⟩)
    (h : ∀ i, Q i → CYx P m0 Y c (L i) (g i) none (ythenK K fun s' st' => st' = none ∧ ∃ j, μ j < μ i ∧ Q j ∧ Fgt m0 s' ⟨L j, g j⟩)) : CYx P m0 Y (.loop c) l hl none K := ⟨fun al hal => ⟨fun hY => by
  intro X hX
  have hstep : ∀ i, Q i → (∀ j, μ j < μ i → Q j → ∀ s, Fgt m0 s ⟨L j, g j⟩ → X s none) → ∀ s, Fgt m0 s ⟨L i, g i⟩ → X s none := by
    intro i hq ih s hs
    obtain ⟨m, h0, h1, h2, h3⟩ := hs.ex
    refine hX s none (.inl ⟨m, L i, ⟨h0, h1, by rw [← h2]; exact h3⟩, ?_⟩)
    rw [← h2]
    refine YWp.mono hY _ _ _ (fun e s' t he => ?_) (((h i hq).run (L i) rfl).run hY)
    cases e <;> first | (obtain ⟨rfl, j, hj, hqj, hf⟩ := he; exact ih j hj hqj s' hf) | exact he
  have key : ∀ n i, μ i < n → Q i → ∀ s, Fgt m0 s ⟨L i, g i⟩ → X s none := by
    intro n
    induction n with
    | zero => intro i hi; omega
    | succ n ih => intro i hi hq s hs; exact hstep i hq (fun j hj hqj => ih j (by omega) hqj) s hs
  exact key (μ i0 + 1) i0 (Nat.lt_succ_self _) hq _ (Fgt.ofx hal hs)⟩⟩
end

section
variable {P : Program} {m0 : Nat} {K : Exit → St → Prop}
/-- The loop outside. -/
theorem CWx.range {f : Opd} {ps : List Nat} {x y : CCode} {l : List (Nat × AV)} {hl : List Blk} {fid : FuncId} {caps : List AV} {F : CFn} (hf : evA l f = .clo fid caps) (hF : compF P fid = some F) (hn : caps.length + 1 ≤ F.n)
    (h : ∀ al, get al = get l → ∀ Y, Y = Yh P al ps x y → CYx P hl.length Y F.code (argsAl 0 (.yld :: caps)) hl none (rangeK F.rvs hl.length al K)) : CWx P m0 true (.rangeF f ps x y) l hl K := ⟨fun al hal => ⟨by
  refine ⟨rfl, fid, caps, F, by rw [hal, evA_eq]; exact hf, hF, hn, ?_⟩
  exact ((h al hal _ rfl).run _ rfl).run (Yh.mono P al ps x y)⟩⟩
/-- A round of it. -/
theorem YCx.yield {al l0 : List (Nat × AV)} {ps : List Nat} {x y : CCode} {f : Opd} {xs : List Opd} {dst : Option Nat} {bef : Nat} {l : List (Nat × AV)} {hl : List Blk} {next : KY} (hal : get al = get l0) (hf : evA l f = .yld) {vs : List AV} (hv : evsA l xs = vs) (hlen : vs.length = ps.length)
    (h : CWx P hl.length false x (setPs l0 ps vs) hl fun e s1 => e = .normal ∧ CW P s1.hl.length false y s1 (bodyK fun res hl' => next (consO l dst (.bool res.isNone)) hl' res)) : YCx P (Yh P al ps x y) f xs dst bef l hl none next := ⟨.inl ⟨hf, rfl, by
  rw [hv]
  have hs : ∀ (ps : List Nat) (vs : List AV) (a b : List (Nat × AV)), get a = get b → get (setPs a ps vs) = get (setPs b ps vs) := by
    intro ps
    induction ps with
    | nil => intro vs a b h; exact h
    | cons p ps ih =>
      intro vs a b h
      cases vs with
      | nil => exact h
      | cons v vs => exact ih vs _ _ (by rw [get_set, get_set, h])
  refine ⟨hlen, CWp.mono _ _ _ _ (fun e s1 hh => ⟨hh.1, hh.2.run⟩) (h.run _ (hs ps vs al l0 hal)).run⟩⟩⟩
theorem YCx.call {Y : Hdl} {f : Opd} {xs : List Opd} {dst : Option Nat} {bef : Nat} {l : List (Nat × AV)} {hl : List Blk} {st : Option Exit} {next : KY} (h : RCx P f xs dst bef l hl [] fun l hl _ => next l hl st) : YCx P Y f xs dst bef l hl st next := ⟨.inr h⟩
/-- From the round's variables to its body. -/
theorem CWx.goY {tp : Bool} {y : CCode} {l : List (Nat × AV)} {hl : List Blk} {Q : Exit → St → Prop} (h : CWx P hl.length tp y l hl Q) : ∀ al, get al = get l → (Exit.normal = .normal ∧ CW P hl.length tp y ⟨al, hl⟩ Q) := fun al hal => ⟨rfl, h.run al hal⟩
end

def afterY (P : Program) (Y : Hdl) (cs : List COp) (op : AOp) (dst : Option Nat) (l : List (Nat × AV)) (hl : List Blk) (st : Option Exit) (K : KY) : Option Res → Prop
  | none => False
  | some r => RYX P Y cs (consO l dst r.v) (hsetL hl r.ups) st K
def gY (P : Program) (Y : Hdl) (v : AV) (w : Bool) (op : AOp) (dst : Option Nat) (bef : Nat) (cs : List COp) (l : List (Nat × AV)) (hl : List Blk) (st : Option Exit) (K : KY) : Prop :=
  match v with
  | .bool b => if b = w then RYX P Y (⟨op, dst, none, bef⟩ :: cs) l hl st K else RYX P Y cs (consO l dst (.tup [])) hl st K
  | .tup [] => RYX P Y cs (consO l dst (.tup [])) hl st K
  | _ => False
section
variable {P : Program} {Y : Hdl} {K : KY} (op : AOp) (dst : Option Nat) (bef : Nat) (cs : List COp) (l : List (Nat × AV)) (hl : List Blk) (st : Option Exit)
theorem afterY_some (v : AV) (W : List (Nat × Blk)) : afterY P Y cs op dst l hl st K (some ⟨v, W⟩) = RYX P Y cs (consO l dst v) (hsetL hl W) st K := rfl
theorem Y_end : RYX P Y [] l hl st K = K l hl st := by rw [RYX_eq]; rfl
theorem Y_cl (f : Opd) (xs : List Opd) : RYX P Y (⟨.call f xs, dst, none, bef⟩ :: cs) l hl st K = YCx P Y f xs dst bef l hl st fun l hl st => RYX P Y cs l hl st K := by simp only [RYX_eq]; rfl
theorem Y_g (d : Nat) (w : Bool) : RYX P Y (⟨op, dst, some (d, w), bef⟩ :: cs) l hl st K = gY P Y (get l d) w op dst bef cs l hl st K := by
  unfold gY
  simp only [RYX_eq, RunYX, wantedA]
  generalize get l d = v
  cases v <;> try rfl
  · rename_i b
    cases b <;> cases w <;> rfl
  · rename_i vs
    cases vs <;> rfl
theorem gY_tt : gY P Y (.bool true) true op dst bef cs l hl st K = RYX P Y (⟨op, dst, none, bef⟩ :: cs) l hl st K := rfl
theorem gY_ff : gY P Y (.bool false) false op dst bef cs l hl st K = RYX P Y (⟨op, dst, none, bef⟩ :: cs) l hl st K := rfl
theorem gY_tf : gY P Y (.bool true) false op dst bef cs l hl st K = RYX P Y cs (consO l dst (.tup [])) hl st K := rfl
theorem gY_ft : gY P Y (.bool false) true op dst bef cs l hl st K = RYX P Y cs (consO l dst (.tup [])) hl st K := rfl
theorem gY_no (w : Bool) : gY P Y (.tup []) w op dst bef cs l hl st K = RYX P Y cs (consO l dst (.tup [])) hl st K := rfl
theorem gY_split {b w : Bool} (h1 : b = true → gY P Y (.bool true) w op dst bef cs l hl st K) (h2 : b = false → gY P Y (.bool false) w op dst bef cs l hl st K) : gY P Y (.bool b) w op dst bef cs l hl st K := by
  cases b with
  | true => exact h1 rfl
  | false => exact h2 rfl
theorem Y_one (h : isCall op = false) : RYX P Y (⟨op, dst, none, bef⟩ :: cs) l hl st K = afterY P Y cs op dst l hl st K (aopA op l hl) := by
  cases op <;> first | (cases h; done) | skip
  all_goals
    rw [RYX_eq]
    simp only [RunYX, wantedA]
    unfold afterY
    simp only [RYX_eq]
    try rfl
end
section
variable {P : Program} {Y : Hdl} {K : KY} (dst : Option Nat) (bef : Nat) (cs : List COp) (l : List (Nat × AV)) (hl : List Blk) (st : Option Exit)
theorem Y_mv (x : Opd) : RYX P Y (⟨.mv x, dst, none, bef⟩ :: cs) l hl st K = afterY P Y cs (.mv x) dst l hl st K (aopA (.mv x) l hl) := Y_one _ dst bef cs l hl st rfl
theorem Y_smv (x : Opd) : RYX P Y (⟨.smv x, dst, none, bef⟩ :: cs) l hl st K = afterY P Y cs (.smv x) dst l hl st K (aopA (.smv x) l hl) := Y_one _ dst bef cs l hl st rfl
theorem Y_newnil (sz : Nat) : RYX P Y (⟨.newnil sz, dst, none, bef⟩ :: cs) l hl st K = afterY P Y cs (.newnil sz) dst l hl st K (aopA (.newnil sz) l hl) := Y_one _ dst bef cs l hl st rfl
theorem Y_pick (c : Opd) (a : Opd) (b : Opd) : RYX P Y (⟨.pick c a b, dst, none, bef⟩ :: cs) l hl st K = afterY P Y cs (.pick c a b) dst l hl st K (aopA (.pick c a b) l hl) := Y_one _ dst bef cs l hl st rfl
theorem Y_alloc (z : AV) : RYX P Y (⟨.alloc z, dst, none, bef⟩ :: cs) l hl st K = afterY P Y cs (.alloc z) dst l hl st K (aopA (.alloc z) l hl) := Y_one _ dst bef cs l hl st rfl
theorem Y_box (x : Opd) : RYX P Y (⟨.box x, dst, none, bef⟩ :: cs) l hl st K = afterY P Y cs (.box x) dst l hl st K (aopA (.box x) l hl) := Y_one _ dst bef cs l hl st rfl
theorem Y_build (z : List AV) (ps : List (Nat × Nat × Opd)) : RYX P Y (⟨.build z ps, dst, none, bef⟩ :: cs) l hl st K = afterY P Y cs (.build z ps) dst l hl st K (aopA (.build z ps) l hl) := Y_one _ dst bef cs l hl st rfl
theorem Y_bsl (sz : Nat) (xs : List Opd) : RYX P Y (⟨.bsl sz xs, dst, none, bef⟩ :: cs) l hl st K = afterY P Y cs (.bsl sz xs) dst l hl st K (aopA (.bsl sz xs) l hl) := Y_one _ dst bef cs l hl st rfl
theorem Y_load (agg : Bool) (sz : Nat) (x : Opd) : RYX P Y (⟨.load agg sz x, dst, none, bef⟩ :: cs) l hl st K = afterY P Y cs (.load agg sz x) dst l hl st K (aopA (.load agg sz x) l hl) := Y_one _ dst bef cs l hl st rfl
theorem Y_store (sz : Nat) (x : Opd) (v : Opd) : RYX P Y (⟨.store sz x v, dst, none, bef⟩ :: cs) l hl st K = afterY P Y cs (.store sz x v) dst l hl st K (aopA (.store sz x v) l hl) := Y_one _ dst bef cs l hl st rfl
theorem Y_nchk (x : Opd) : RYX P Y (⟨.nchk x, dst, none, bef⟩ :: cs) l hl st K = afterY P Y cs (.nchk x) dst l hl st K (aopA (.nchk x) l hl) := Y_one _ dst bef cs l hl st rfl
theorem Y_bin (o : BinOp) (x : Opd) (y : Opd) : RYX P Y (⟨.bin o x y, dst, none, bef⟩ :: cs) l hl st K = afterY P Y cs (.bin o x y) dst l hl st K (aopA (.bin o x y) l hl) := Y_one _ dst bef cs l hl st rfl
theorem Y_eqv (neg : Bool) (agg : Bool) (ks : List SK) (x : Opd) (y : Opd) : RYX P Y (⟨.eqv neg agg ks x y, dst, none, bef⟩ :: cs) l hl st K = afterY P Y cs (.eqv neg agg ks x y) dst l hl st K (aopA (.eqv neg agg ks x y) l hl) := Y_one _ dst bef cs l hl st rfl
theorem Y_neg (x : Opd) : RYX P Y (⟨.neg x, dst, none, bef⟩ :: cs) l hl st K = afterY P Y cs (.neg x) dst l hl st K (aopA (.neg x) l hl) := Y_one _ dst bef cs l hl st rfl
theorem Y_not (x : Opd) : RYX P Y (⟨.not x, dst, none, bef⟩ :: cs) l hl st K = afterY P Y cs (.not x) dst l hl st K (aopA (.not x) l hl) := Y_one _ dst bef cs l hl st rfl
theorem Y_conv (k : IntKind) (x : Opd) : RYX P Y (⟨.conv k x, dst, none, bef⟩ :: cs) l hl st K = afterY P Y cs (.conv k x) dst l hl st K (aopA (.conv k x) l hl) := Y_one _ dst bef cs l hl st rfl
theorem Y_ext (x : Opd) (i : Nat) : RYX P Y (⟨.ext x i, dst, none, bef⟩ :: cs) l hl st K = afterY P Y cs (.ext x i) dst l hl st K (aopA (.ext x i) l hl) := Y_one _ dst bef cs l hl st rfl
theorem Y_faddr (x : Opd) (off : Nat) : RYX P Y (⟨.faddr x off, dst, none, bef⟩ :: cs) l hl st K = afterY P Y cs (.faddr x off) dst l hl st K (aopA (.faddr x off) l hl) := Y_one _ dst bef cs l hl st rfl
theorem Y_fld (x : Opd) (off : Nat) (agg : Bool) (sz : Nat) : RYX P Y (⟨.fld x off agg sz, dst, none, bef⟩ :: cs) l hl st K = afterY P Y cs (.fld x off agg sz) dst l hl st K (aopA (.fld x off agg sz) l hl) := Y_one _ dst bef cs l hl st rfl
theorem Y_iaddr (sz : Nat) (x : Opd) (i : Opd) : RYX P Y (⟨.iaddr sz x i, dst, none, bef⟩ :: cs) l hl st K = afterY P Y cs (.iaddr sz x i) dst l hl st K (aopA (.iaddr sz x i) l hl) := Y_one _ dst bef cs l hl st rfl
theorem Y_iaddrA (n : Nat) (sz : Nat) (x : Opd) (i : Opd) : RYX P Y (⟨.iaddrA n sz x i, dst, none, bef⟩ :: cs) l hl st K = afterY P Y cs (.iaddrA n sz x i) dst l hl st K (aopA (.iaddrA n sz x i) l hl) := Y_one _ dst bef cs l hl st rfl
theorem Y_idxA (n : Nat) (sz : Nat) (agg : Bool) (x : Opd) (i : Opd) : RYX P Y (⟨.idxA n sz agg x i, dst, none, bef⟩ :: cs) l hl st K = afterY P Y cs (.idxA n sz agg x i) dst l hl st K (aopA (.idxA n sz agg x i) l hl) := Y_one _ dst bef cs l hl st rfl
theorem Y_slc (sz : Nat) (x : Opd) (lo : Option Opd) (hi : Option Opd) : RYX P Y (⟨.slc sz x lo hi, dst, none, bef⟩ :: cs) l hl st K = afterY P Y cs (.slc sz x lo hi) dst l hl st K (aopA (.slc sz x lo hi) l hl) := Y_one _ dst bef cs l hl st rfl
theorem Y_mks (sz : Nat) (b : Nat) (z : AV) (n : Opd) : RYX P Y (⟨.mks sz b z n, dst, none, bef⟩ :: cs) l hl st K = afterY P Y cs (.mks sz b z n) dst l hl st K (aopA (.mks sz b z n) l hl) := Y_one _ dst bef cs l hl st rfl
theorem Y_mkf (f : FuncId) (caps : List Opd) : RYX P Y (⟨.mkf f caps, dst, none, bef⟩ :: cs) l hl st K = afterY P Y cs (.mkf f caps) dst l hl st K (aopA (.mkf f caps) l hl) := Y_one _ dst bef cs l hl st rfl
theorem Y_len (x : Opd) : RYX P Y (⟨.len x, dst, none, bef⟩ :: cs) l hl st K = afterY P Y cs (.len x) dst l hl st K (aopA (.len x) l hl) := Y_one _ dst bef cs l hl st rfl
theorem Y_lenS (x : Opd) : RYX P Y (⟨.lenS x, dst, none, bef⟩ :: cs) l hl st K = afterY P Y cs (.lenS x) dst l hl st K (aopA (.lenS x) l hl) := Y_one _ dst bef cs l hl st rfl
theorem Y_lenC (n : Nat) : RYX P Y (⟨.lenC n, dst, none, bef⟩ :: cs) l hl st K = afterY P Y cs (.lenC n) dst l hl st K (aopA (.lenC n) l hl) := Y_one _ dst bef cs l hl st rfl
theorem Y_append (sz : Nat) (b : Nat) (x : Opd) (y : Opd) : RYX P Y (⟨.append sz b x y, dst, none, bef⟩ :: cs) l hl st K = afterY P Y cs (.append sz b x y) dst l hl st K (aopA (.append sz b x y) l hl) := Y_one _ dst bef cs l hl st rfl
theorem Y_idxS (x i : Opd) : RYX P Y (⟨.idxS x i, dst, none, bef⟩ :: cs) l hl st K = afterY P Y cs (.idxS x i) dst l hl st K (aopA (.idxS x i) l hl) := Y_one _ dst bef cs l hl st rfl
theorem Y_slcM (sz : Nat) (x hi mx : Opd) : RYX P Y (⟨.slcM sz x hi mx, dst, none, bef⟩ :: cs) l hl st K = afterY P Y cs (.slcM sz x hi mx) dst l hl st K (aopA (.slcM sz x hi mx) l hl) := Y_one _ dst bef cs l hl st rfl
theorem Y_clear (sz : Nat) (z : AV) (x : Opd) : RYX P Y (⟨.clear sz z x, dst, none, bef⟩ :: cs) l hl st K = afterY P Y cs (.clear sz z x) dst l hl st K (aopA (.clear sz z x) l hl) := Y_one _ dst bef cs l hl st rfl
theorem Y_mx (xs : List Opd) : RYX P Y (⟨.mx xs, dst, none, bef⟩ :: cs) l hl st K = afterY P Y cs (.mx xs) dst l hl st K (aopA (.mx xs) l hl) := Y_one _ dst bef cs l hl st rfl
theorem Y_mn (xs : List Opd) : RYX P Y (⟨.mn xs, dst, none, bef⟩ :: cs) l hl st K = afterY P Y cs (.mn xs) dst l hl st K (aopA (.mn xs) l hl) := Y_one _ dst bef cs l hl st rfl
end
/-- The end of an iterator. -/
theorem rangeEndN {K : Exit → St → Prop} {rvs : List RV} {n0 : Nat} {al al2 l0 : List (Nat × AV)} {hl H : List Blk} {e : Exit} (he : e = .normal ∨ e = .ret) (hr : (resRV al2 hl rvs).isSome = true) (hH : hl.take n0 = H) (hlt : ltB n0 H) (hal : get al = get l0) (h : ∀ al, get al = get l0 → K .normal ⟨al, H⟩) : rangeK rvs n0 al K e ⟨al2, hl⟩ none :=
  ⟨he, hr, .inl rfl, n0, Nat.le_refl _, by rw [hH]; exact ltB_mem hlt, by rw [hH]; exact h al hal⟩
theorem rangeEndR {K : Exit → St → Prop} {rvs : List RV} {n0 : Nat} {al al2 l0 : List (Nat × AV)} {hl H : List Blk} {e : Exit} (he : e = .normal ∨ e = .ret) (hr : (resRV al2 hl rvs).isSome = true) (hH : hl.take n0 = H) (hlt : ltB n0 H) (hal : get al = get l0) (h : ∀ al, get al = get l0 → K .ret ⟨al, H⟩) : rangeK rvs n0 al K e ⟨al2, hl⟩ (some .ret) :=
  ⟨he, hr, .inr (.inl rfl), n0, Nat.le_refl _, by rw [hH]; exact ltB_mem hlt, by rw [hH]; exact h al hal⟩
theorem rangeEndX {K : Exit → St → Prop} {rvs : List RV} {n0 id : Nat} {al al2 l0 : List (Nat × AV)} {hl H : List Blk} {e : Exit} (he : e = .normal ∨ e = .ret) (hr : (resRV al2 hl rvs).isSome = true) (hH : hl.take n0 = H) (hlt : ltB n0 H) (hal : get al = get l0) (h : ∀ al, get al = get l0 → K (.exit id) ⟨al, H⟩) : rangeK rvs n0 al K e ⟨al2, hl⟩ (some (.exit id)) :=
  ⟨he, hr, .inr (.inr ⟨id, rfl⟩), n0, Nat.le_refl _, by rw [hH]; exact ltB_mem hlt, by rw [hH]; exact h al hal⟩
/-- A round of it, with its variables told. -/
theorem YCx.yieldL {P : Program} {Y : Hdl} {al l0 L' : List (Nat × AV)} {ps : List Nat} {x y : CCode} {f : Opd} {xs : List Opd} {dst : Option Nat} {bef : Nat} {l : List (Nat × AV)} {hl : List Blk} {next : KY} (hY : Y = Yh P al ps x y) (hal : get al = get l0) (hf : evA l f = .yld) {vs : List AV} (hv : evsA l xs = vs) (hlen : vs.length = ps.length) (hL : setPs l0 ps vs = L')
    (h : CWx P hl.length false x L' hl fun e s1 => e = .normal ∧ CW P s1.hl.length false y s1 (bodyK fun res hl' => next (consO l dst (.bool res.isNone)) hl' res)) : YCx P Y f xs dst bef l hl none next := by
  subst hY
  exact YCx.yield hal hf hv hlen (by rw [hL]; exact h)
def drY := And.intro @Y_end (And.intro @Y_cl (And.intro @Y_g (And.intro @afterY_some (And.intro @gY_tt (And.intro @gY_ff (And.intro @gY_tf (And.intro @gY_ft (And.intro @gY_no (And.intro @Y_mv (And.intro @Y_smv (And.intro @Y_newnil (And.intro @Y_pick (And.intro @Y_alloc (And.intro @Y_box (And.intro @Y_build (And.intro @Y_bsl (And.intro @Y_load (And.intro @Y_store (And.intro @Y_nchk (And.intro @Y_bin (And.intro @Y_eqv (And.intro @Y_neg (And.intro @Y_not (And.intro @Y_conv (And.intro @Y_ext (And.intro @Y_faddr (And.intro @Y_fld (And.intro @Y_iaddr (And.intro @Y_iaddrA (And.intro @Y_idxA (And.intro @Y_slc (And.intro @Y_mks (And.intro @Y_mkf (And.intro @Y_len (And.intro @Y_lenS (And.intro @Y_lenC (And.intro @Y_append (And.intro @Y_idxS (And.intro @Y_slcM (And.intro @Y_clear (And.intro @Y_mx (@Y_mn))))))))))))))))))))))))))))))))))))))))))
end Go.Am
end
section
set_option linter.unusedSimpArgs false
set_option linter.unusedVariables false
namespace Go.Am
open Go Go.RowKit

/-- The same, all arguments being plain: what is handed back may hold memory that is only read. -/
theorem RCx.plainRs {P : Program} {f : Opd} {xs : List Opd} {dst : Option Nat} {bef : Nat} {l : List (Nat × AV)} {hl : List Blk} {tr : Tr} {next : List (Nat × AV) → List Blk → Tr → Prop}
    {fid : FuncId} {caps : List AV} (hf : evA l f = .clo fid caps) {args : List AV} (hX : evsA l xs ++ caps = args) (hlt : ltL 0 args = true) {r : AV} {bs : List Blk} (hC : CallsF P fid args [] r bs)
    (hW : (okW hl.length (frW (fun b => hl.length + b) 0 bs) && (frW (fun b => hl.length + b) 0 bs).all (fun p => (upFrom hl.length bs.length).contains p.1)) = true)
    (h : next (consO l dst (r.ren (fun b => hl.length + b))) (hsetL hl (frW (fun b => hl.length + b) 0 bs)) ((upFrom hl.length bs.length, (frW (fun b => hl.length + b) 0 bs).map Prod.fst, bef) :: tr)) : RCx P f xs dst bef l hl tr next := by
  have hs : sigma [] hl.length = fun b => hl.length + b := by funext b; simp [sigma]
  refine ⟨fid, caps, upFrom hl.length bs.length, r.ren (fun b => hl.length + b), frW (fun b => hl.length + b) 0 bs, by rw [evA_eq]; exact hf, ?_, hW, h⟩
  have := CallsF.frame false hC (h := hget hl) (T := upFrom hl.length bs.length) (names := []) (n := hl.length) ⟨rfl, Nat.zero_le _, List.nodup_nil, fun x hx => (by cases hx), fun i x hx => (by simp at hx), fun b hb _ => hget_dead _ _ hb, fun b hb => (by cases hb)⟩ (fun x hx => (by cases hx))
    (fun b hb1 hb2 => mem_upFrom _ _ _ hb1 (by simpa using hb2)) rfl (fun i Y y hY hy => by rw [hY] at hy; cases hy; exact .plain (ltL_mem hlt Y (List.mem_of_getElem? hY))) (fun h => by cases h)
  rw [hs] at this
  rw [evsA_eq, hX]
  exact this
/-- Several new rows are handed back. -/
theorem finK_news {rvs : List RV} {r : AV} {e : Exit} {s : St} {xs : List AV} (sg : List (Nat × Nat)) {bs : List Blk} (he : e = .normal ∨ e = .ret) (hr : resRV s.al s.hl rvs = some xs)
    (hx : exOk 0 sg s.hl (tupAV xs) = true) (hrx : (tupAV xs).mapR (sigF 0 sg) = r) (hb : exHl 0 sg s.hl = bs) : finK rvs 0 r bs e s :=
  ⟨he, xs, sg, hr, exOk_spec hx, hrx, hb⟩
end Go.Am
end
section
set_option linter.unusedSimpArgs false
set_option linter.unusedVariables false
set_option maxHeartbeats 4000000
namespace Go.Hull
open Go Go.Am Go.Proofs

theorem c26 {u v : Pt} (hu : smallV u) (hv : smallV v) : CallsF Try.prog 26 [pt u, pt v] [] (.int .i64 (dot u v)) [] := by
  obtain ⟨⟨a1, a2⟩, a3, a4⟩ := hu
  obtain ⟨⟨b1, b2⟩, b3, b4⟩ := hv
  have m1 := mul_bd a1 a2 b1 b2
  have m2 := mul_bd a3 a4 b3 b4
  refine callsF_cwx hm hf26 (by simp [cf26]) ?_
  simp only [cf26, argsAl]
  repeat' first
    | (refine hK _ _ _ (by first | exact fun h => Bool.noConfusion h | exact fun _ => rfl) ?_; clear hK K)
    | (refine CWx.r fun K hK => ?_; simp (maxSteps := 4000000) (disch := omega) only [dr0, dr1, dr2, evsA, evpA, elemsA, elemsP, sizedA, optA, refA, consO, Am.get, hsetL, hset, hget, rowAt?, loadCells', fillA, List.foldl, List.all, List.map, List.set, List.take, List.drop, Option.getD, Option.map, if_true, if_false, Nat.reduceEqDiff, Int.reduceToNat, Nat.reduceAdd, Nat.reduceMul, Nat.reduceLT, Nat.reduceLeDiff, reduceCtorEq, ↓reduceIte, eqCells, foldAV, Option.some.injEq, catT, put_pt, put_pt0, put_pt1, ref_pts, ref_pt, ref_ixV, eqvA_pt, cont_ixV, cont_pts, len_pts, ia_ptsD, ia_pts, cells_pt, elem_pt, fold_pt2, pair_eta, len_ixV, ia_ixV, ix_length, ix_append, ix_take, ix_drop, wr62, natAdd1, natAddN, natSub1, natSubN, tmodN, tdivN, toNat_cast, Int.toNat_zero, Int.natCast_nonneg, ixg, ptsg, appB, if_pos, if_neg, List.isEmpty_nil, List.isEmpty_cons, elem_pts, cells_pts, elem_ixV, cells_ixV, Bool.or_self, Bool.false_or, Bool.or_false, or_true, true_or, Bool.false_and, not_true_eq_false, not_false_eq_true, one_ix, gX_tt, gX_ff, gX_tf, gX_ft, beq_self_eq_true, all_ix, ix_snoc, pts_snoc, bne_self_eq_false, ← List.map_take, ← List.map_drop, List.take_take, Nat.min_self, List.length_map, List.length_take,  slc_ixV, slc_pts])
    | refine CWx.go ?_
    | (refine gX_split (fun hb => ?_) (fun hb => ?_) <;> (try simp only [hb]) <;> (try simp only [decide_eq_true_eq, decide_eq_false_iff_not, beq_iff_eq, bne_iff_ne, ne_eq, Bool.not_eq_true, Bool.not_eq_false, beq_eq_false_iff_ne, bne_eq_false_iff_eq, Decidable.not_not, Bool.not_eq_eq_eq_not, Bool.not_true, Bool.not_false, Bool.true_eq_false, Bool.false_eq_true, Int.not_lt, Int.not_le, Bool.and_eq_true, Bool.and_eq_false_iff, Bool.or_eq_true, Bool.or_eq_false_iff, reduceCtorEq] at hb) <;> simp (maxSteps := 4000000) (disch := omega) only [dr0, dr1, dr2, evsA, evpA, elemsA, elemsP, sizedA, optA, refA, consO, Am.get, hsetL, hset, hget, rowAt?, loadCells', fillA, List.foldl, List.all, List.map, List.set, List.take, List.drop, Option.getD, Option.map, if_true, if_false, Nat.reduceEqDiff, Int.reduceToNat, Nat.reduceAdd, Nat.reduceMul, Nat.reduceLT, Nat.reduceLeDiff, reduceCtorEq, ↓reduceIte, eqCells, foldAV, Option.some.injEq, catT, put_pt, put_pt0, put_pt1, ref_pts, ref_pt, ref_ixV, eqvA_pt, cont_ixV, cont_pts, len_pts, ia_ptsD, ia_pts, cells_pt, elem_pt, fold_pt2, pair_eta, len_ixV, ia_ixV, ix_length, ix_append, ix_take, ix_drop, wr62, natAdd1, natAddN, natSub1, natSubN, tmodN, tdivN, toNat_cast, Int.toNat_zero, Int.natCast_nonneg, ixg, ptsg, appB, if_pos, if_neg, List.isEmpty_nil, List.isEmpty_cons, elem_pts, cells_pts, elem_ixV, cells_ixV, Bool.or_self, Bool.false_or, Bool.or_false, or_true, true_or, Bool.false_and, not_true_eq_false, not_false_eq_true, one_ix, gX_tt, gX_ff, gX_tf, gX_ft, beq_self_eq_true, all_ix, ix_snoc, pts_snoc, bne_self_eq_false, ← List.map_take, ← List.map_drop, List.take_take, Nat.min_self, List.length_map, List.length_take,  slc_ixV, slc_pts])
    | (refine CWx.br rfl (fun hb => ?_) (fun hb => ?_) <;> first | exact Bool.noConfusion hb | (first | (simp only [decide_eq_true_eq, decide_eq_false_iff_not, beq_iff_eq, bne_iff_ne, ne_eq, Bool.not_eq_true, Bool.not_eq_false, beq_eq_false_iff_ne, bne_eq_false_iff_eq, Decidable.not_not, Bool.not_eq_eq_eq_not, Bool.not_true, Bool.not_false, Bool.true_eq_false, Bool.false_eq_true, Int.not_lt, Int.not_le, Bool.and_eq_true, Bool.and_eq_false_iff, Bool.or_eq_true, Bool.or_eq_false_iff, reduceCtorEq] at hb; done) | ((try simp only [decide_eq_true_eq, decide_eq_false_iff_not, beq_iff_eq, bne_iff_ne, ne_eq, Bool.not_eq_true, Bool.not_eq_false, beq_eq_false_iff_ne, bne_eq_false_iff_eq, Decidable.not_not, Bool.not_eq_eq_eq_not, Bool.not_true, Bool.not_false, Bool.true_eq_false, Bool.false_eq_true, Int.not_lt, Int.not_le, Bool.and_eq_true, Bool.and_eq_false_iff, Bool.or_eq_true, Bool.or_eq_false_iff, reduceCtorEq] at hb); first | contradiction | skip)))
    | (refine CWx.e fun K hK => ?_; simp (maxSteps := 4000000) (disch := omega) only [dr0, dr1, dr2, evsA, evpA, elemsA, elemsP, sizedA, optA, refA, consO, Am.get, hsetL, hset, hget, rowAt?, loadCells', fillA, List.foldl, List.all, List.map, List.set, List.take, List.drop, Option.getD, Option.map, if_true, if_false, Nat.reduceEqDiff, Int.reduceToNat, Nat.reduceAdd, Nat.reduceMul, Nat.reduceLT, Nat.reduceLeDiff, reduceCtorEq, ↓reduceIte, eqCells, foldAV, Option.some.injEq, catT, put_pt, put_pt0, put_pt1, ref_pts, ref_pt, ref_ixV, eqvA_pt, cont_ixV, cont_pts, len_pts, ia_ptsD, ia_pts, cells_pt, elem_pt, fold_pt2, pair_eta, len_ixV, ia_ixV, ix_length, ix_append, ix_take, ix_drop, wr62, natAdd1, natAddN, natSub1, natSubN, tmodN, tdivN, toNat_cast, Int.toNat_zero, Int.natCast_nonneg, ixg, ptsg, appB, if_pos, if_neg, List.isEmpty_nil, List.isEmpty_cons, elem_pts, cells_pts, elem_ixV, cells_ixV, Bool.or_self, Bool.false_or, Bool.or_false, or_true, true_or, Bool.false_and, not_true_eq_false, not_false_eq_true, one_ix, gX_tt, gX_ff, gX_tf, gX_ft, beq_self_eq_true, all_ix, ix_snoc, pts_snoc, bne_self_eq_false, ← List.map_take, ← List.map_drop, List.take_take, Nat.min_self, List.length_map, List.length_take,  slc_ixV, slc_pts])
    | refine CWx.seq ?_
    | refine CWx.skip ?_
    | refine CWx.exit ?_
    | (refine CWx.ret fun al hal => finK_ext hal (finK_pure (.inr rfl) (by simp only [resRV, Am.get, Nat.reduceEqDiff, ↓reduceIte]; exact rfl) ?_ (by first | rfl | simp [AV.allR, allRL])); first | (rfl; done) | ((simp only [tupAV]; congr <;> omega); done) | (simp [tupAV, *]; done))
theorem c70 (l : List Pt) (d : Pt) (hl : 0 < l.length) (hn : l.length < 4611686018427387904) (hs : ∀ p ∈ l, smallV p) (hd : smallV d) :
    CallsF Try.prog 70 [pts l, pt d] [] (.int .i64 (topN l d l.length)) [] := by
  have hsm : ∀ k, k < l.length → smallV (P l k) := fun k hk => hs _ (P_mem hk)
  refine callsF_cwx hm hf70 (by simp [cf70]) ?_
  simp only [cf70, argsAl]
  repeat' first
    | (refine hK _ _ _ (by first | exact fun h => Bool.noConfusion h | exact fun _ => rfl) ?_; clear hK K)
    | (refine CWx.r fun K hK => ?_; simp (maxSteps := 4000000) (disch := omega) only [dr0, dr1, dr2, evsA, evpA, elemsA, elemsP, sizedA, optA, refA, consO, Am.get, hsetL, hset, hget, rowAt?, loadCells', fillA, List.foldl, List.all, List.map, List.set, List.take, List.drop, Option.getD, Option.map, if_true, if_false, Nat.reduceEqDiff, Int.reduceToNat, Nat.reduceAdd, Nat.reduceMul, Nat.reduceLT, Nat.reduceLeDiff, reduceCtorEq, ↓reduceIte, eqCells, foldAV, Option.some.injEq, catT, put_pt, put_pt0, put_pt1, ref_pts, ref_pt, ref_ixV, eqvA_pt, cont_ixV, cont_pts, len_pts, ia_ptsD, ia_pts, cells_pt, elem_pt, fold_pt2, pair_eta, len_ixV, ia_ixV, ix_length, ix_append, ix_take, ix_drop, wr62, natAdd1, natAddN, natSub1, natSubN, tmodN, tdivN, toNat_cast, Int.toNat_zero, Int.natCast_nonneg, ixg, ptsg, appB, if_pos, if_neg, List.isEmpty_nil, List.isEmpty_cons, elem_pts, cells_pts, elem_ixV, cells_ixV, Bool.or_self, Bool.false_or, Bool.or_false, or_true, true_or, Bool.false_and, not_true_eq_false, not_false_eq_true, one_ix, gX_tt, gX_ff, gX_tf, gX_ft, beq_self_eq_true, all_ix, ix_snoc, pts_snoc, bne_self_eq_false, ← List.map_take, ← List.map_drop, List.take_take, Nat.min_self, List.length_map, List.length_take,  slc_ixV, slc_pts])
    | refine CWx.go ?_
    | (apply RCx.view (fid := 26) (caps := []) rfl rfl; (focus ((simp only [evsA, evA_t, evA_c, Am.get, Nat.reduceEqDiff, ↓reduceIte, List.nil_append, List.cons_append, List.append_nil]; repeat' first | exact viewArgs_nil | apply viewArgs_cons | exact viewG_flat (flat_pts _ _) _ | exact viewG_flat (flat_ixV _ _) _ | exact viewG_ixT rfl (by assumption) (by omega) | exact viewG_ptsL rfl (by first | omega | (simp; done) | (simp; omega)) | exact viewG_ix rfl (by first | omega | (simp; omega)) | exact viewG_flat rfl _; done))); (focus (refine c26 (hsm _ ?_) hd <;> first | omega | assumption)); (focus rfl); simp (maxSteps := 4000000) (disch := omega) only [dr0, dr1, dr2, evsA, evpA, elemsA, elemsP, sizedA, optA, refA, consO, Am.get, hsetL, hset, hget, rowAt?, loadCells', fillA, List.foldl, List.all, List.map, List.set, List.take, List.drop, Option.getD, Option.map, if_true, if_false, Nat.reduceEqDiff, Int.reduceToNat, Nat.reduceAdd, Nat.reduceMul, Nat.reduceLT, Nat.reduceLeDiff, reduceCtorEq, ↓reduceIte, eqCells, foldAV, Option.some.injEq, catT, put_pt, put_pt0, put_pt1, ref_pts, ref_pt, ref_ixV, eqvA_pt, cont_ixV, cont_pts, len_pts, ia_ptsD, ia_pts, cells_pt, elem_pt, fold_pt2, pair_eta, len_ixV, ia_ixV, ix_length, ix_append, ix_take, ix_drop, wr62, natAdd1, natAddN, natSub1, natSubN, tmodN, tdivN, toNat_cast, Int.toNat_zero, Int.natCast_nonneg, ixg, ptsg, appB, if_pos, if_neg, List.isEmpty_nil, List.isEmpty_cons, elem_pts, cells_pts, elem_ixV, cells_ixV, Bool.or_self, Bool.false_or, Bool.or_false, or_true, true_or, Bool.false_and, not_true_eq_false, not_false_eq_true, one_ix, gX_tt, gX_ff, gX_tf, gX_ft, beq_self_eq_true, all_ix, ix_snoc, pts_snoc, bne_self_eq_false, ← List.map_take, ← List.map_drop, List.take_take, Nat.min_self, List.length_map, List.length_take,  slc_ixV, slc_pts])
    | (refine gX_split (fun hb => ?_) (fun hb => ?_) <;> (try simp only [hb]) <;> (try simp only [decide_eq_true_eq, decide_eq_false_iff_not, beq_iff_eq, bne_iff_ne, ne_eq, Bool.not_eq_true, Bool.not_eq_false, beq_eq_false_iff_ne, bne_eq_false_iff_eq, Decidable.not_not, Bool.not_eq_eq_eq_not, Bool.not_true, Bool.not_false, Bool.true_eq_false, Bool.false_eq_true, Int.not_lt, Int.not_le, Bool.and_eq_true, Bool.and_eq_false_iff, Bool.or_eq_true, Bool.or_eq_false_iff, reduceCtorEq] at hb) <;> simp (maxSteps := 4000000) (disch := omega) only [dr0, dr1, dr2, evsA, evpA, elemsA, elemsP, sizedA, optA, refA, consO, Am.get, hsetL, hset, hget, rowAt?, loadCells', fillA, List.foldl, List.all, List.map, List.set, List.take, List.drop, Option.getD, Option.map, if_true, if_false, Nat.reduceEqDiff, Int.reduceToNat, Nat.reduceAdd, Nat.reduceMul, Nat.reduceLT, Nat.reduceLeDiff, reduceCtorEq, ↓reduceIte, eqCells, foldAV, Option.some.injEq, catT, put_pt, put_pt0, put_pt1, ref_pts, ref_pt, ref_ixV, eqvA_pt, cont_ixV, cont_pts, len_pts, ia_ptsD, ia_pts, cells_pt, elem_pt, fold_pt2, pair_eta, len_ixV, ia_ixV, ix_length, ix_append, ix_take, ix_drop, wr62, natAdd1, natAddN, natSub1, natSubN, tmodN, tdivN, toNat_cast, Int.toNat_zero, Int.natCast_nonneg, ixg, ptsg, appB, if_pos, if_neg, List.isEmpty_nil, List.isEmpty_cons, elem_pts, cells_pts, elem_ixV, cells_ixV, Bool.or_self, Bool.false_or, Bool.or_false, or_true, true_or, Bool.false_and, not_true_eq_false, not_false_eq_true, one_ix, gX_tt, gX_ff, gX_tf, gX_ft, beq_self_eq_true, all_ix, ix_snoc, pts_snoc, bne_self_eq_false, ← List.map_take, ← List.map_drop, List.take_take, Nat.min_self, List.length_map, List.length_take,  slc_ixV, slc_pts])
    | (refine CWx.br rfl (fun hb => ?_) (fun hb => ?_) <;> first | exact Bool.noConfusion hb | (first | (simp only [decide_eq_true_eq, decide_eq_false_iff_not, beq_iff_eq, bne_iff_ne, ne_eq, Bool.not_eq_true, Bool.not_eq_false, beq_eq_false_iff_ne, bne_eq_false_iff_eq, Decidable.not_not, Bool.not_eq_eq_eq_not, Bool.not_true, Bool.not_false, Bool.true_eq_false, Bool.false_eq_true, Int.not_lt, Int.not_le, Bool.and_eq_true, Bool.and_eq_false_iff, Bool.or_eq_true, Bool.or_eq_false_iff, reduceCtorEq] at hb; done) | ((try simp only [decide_eq_true_eq, decide_eq_false_iff_not, beq_iff_eq, bne_iff_ne, ne_eq, Bool.not_eq_true, Bool.not_eq_false, beq_eq_false_iff_ne, bne_eq_false_iff_eq, Decidable.not_not, Bool.not_eq_eq_eq_not, Bool.not_true, Bool.not_false, Bool.true_eq_false, Bool.false_eq_true, Int.not_lt, Int.not_le, Bool.and_eq_true, Bool.and_eq_false_iff, Bool.or_eq_true, Bool.or_eq_false_iff, reduceCtorEq] at hb); first | contradiction | skip)))
    | (refine CWx.e fun K hK => ?_; simp (maxSteps := 4000000) (disch := omega) only [dr0, dr1, dr2, evsA, evpA, elemsA, elemsP, sizedA, optA, refA, consO, Am.get, hsetL, hset, hget, rowAt?, loadCells', fillA, List.foldl, List.all, List.map, List.set, List.take, List.drop, Option.getD, Option.map, if_true, if_false, Nat.reduceEqDiff, Int.reduceToNat, Nat.reduceAdd, Nat.reduceMul, Nat.reduceLT, Nat.reduceLeDiff, reduceCtorEq, ↓reduceIte, eqCells, foldAV, Option.some.injEq, catT, put_pt, put_pt0, put_pt1, ref_pts, ref_pt, ref_ixV, eqvA_pt, cont_ixV, cont_pts, len_pts, ia_ptsD, ia_pts, cells_pt, elem_pt, fold_pt2, pair_eta, len_ixV, ia_ixV, ix_length, ix_append, ix_take, ix_drop, wr62, natAdd1, natAddN, natSub1, natSubN, tmodN, tdivN, toNat_cast, Int.toNat_zero, Int.natCast_nonneg, ixg, ptsg, appB, if_pos, if_neg, List.isEmpty_nil, List.isEmpty_cons, elem_pts, cells_pts, elem_ixV, cells_ixV, Bool.or_self, Bool.false_or, Bool.or_false, or_true, true_or, Bool.false_and, not_true_eq_false, not_false_eq_true, one_ix, gX_tt, gX_ff, gX_tf, gX_ft, beq_self_eq_true, all_ix, ix_snoc, pts_snoc, bne_self_eq_false, ← List.map_take, ← List.map_drop, List.take_take, Nat.min_self, List.length_map, List.length_take,  slc_ixV, slc_pts])
    | (refine CWx.block (id := 0) ?_; refine CWx.loopK (ι := Nat) [0, 3] (fun i => l.length - i) (fun i => [(6, .int .i64 (i : Int)), (5, .int .i64 (topN l d i))]) (fun i => [.row false 0 false 2 [pt d]]) (fun i => i ≤ l.length) (fun i => by simp only [keepA, Am.get, List.cons_append, List.nil_append, Nat.reduceEqDiff, ↓reduceIte]; exact rfl) (0) ?_ ?_ (fun i hi => ?_); (focus ((try dsimp only); first | trivial | omega | (refine ⟨?_, ?_⟩ <;> first | omega | trivial | simp_all) | simp_all)); (focus (refine Fgt.mk' 1 (by simp) ?_ ?_ ?_ <;> simp [-List.map_take, -List.map_map, AV.isY, ltL_append, keepB, Am.get, AV.lt, ltL, lt_pts, lt_pt, lt_ixV, ltL_ix, ltL_pt, Blk.lt, ltB, topN])); (skip))
    | refine CWx.seq ?_
    | refine CWx.block (id := 1) ?_
    | refine CWx.skip ?_
    | refine CWx.exit ?_
    | (refine CWx.ret fun al hal => finK_ext hal (finK_pure (.inr rfl) (by simp only [resRV, Am.get, Nat.reduceEqDiff, ↓reduceIte]; exact rfl) ?_ (by first | rfl | simp [AV.allR, allRL])); first | (rfl; done) | ((simp only [tupAV]; congr <;> omega); done) | (simp [tupAV, *]; done))
    | (intro al hal; refine ⟨i + 1, ?_, ?_, Fgt.ofx hal ?_⟩; (focus (first | omega | (dsimp only; omega))); (focus ((try dsimp only); first | trivial | omega | (refine ⟨?_, ?_⟩ <;> first | omega | trivial | simp_all) | simp_all; done)); (focus (refine Fgt.mk' 1 (by simp) ?_ ?_ ?_ <;> simp [-List.map_take, -List.map_map, AV.isY, ltL_append, keepB, Am.get, AV.lt, ltL, lt_pts, lt_pt, lt_ixV, ltL_ix, ltL_pt, Blk.lt, ltB, topN, topN]; done)))
theorem dot_bd {u v : Pt} (hu : smallV u) (hv : smallV v) : -80000000000 ≤ dot u v ∧ dot u v ≤ 80000000000 := by
  obtain ⟨⟨a1, a2⟩, a3, a4⟩ := hu
  obtain ⟨⟨b1, b2⟩, b3, b4⟩ := hv
  have m1 := mul_bd a1 a2 b1 b2
  have m2 := mul_bd a3 a4 b3 b4
  simp only [dot]
  omega
theorem top_bd {l : List Pt} {d : Pt} (hl : 0 < l.length) (hs : ∀ p ∈ l, smallV p) (hd : smallV d) : ∀ i, i ≤ l.length → -80000000000 ≤ topN l d i ∧ topN l d i ≤ 80000000000 := by
  intro i
  induction i with
  | zero => intro _; exact dot_bd (hs _ (P_mem hl)) hd
  | succ i ih =>
    intro h
    have h1 := ih (by omega)
    have h2 := dot_bd (hs _ (P_mem (show i < l.length by omega))) hd
    simp only [topN, maxI]
    split <;> omega
theorem neg_small {d : Pt} (hd : smallV d) : smallV (neg d) := by simp only [smallV, neg] at *; omega
/-- Does a direction separate? -/
def spl (a b : List Pt) (d : Pt) : Bool := decide (topN a d a.length < -(topN b (neg d) b.length))
theorem c69 (a b : List Pt) (d : Pt) (ha : 0 < a.length) (hna : a.length < 4611686018427387904) (hb : 0 < b.length) (hnb : b.length < 4611686018427387904) (sa : ∀ p ∈ a, smallV p) (sb : ∀ p ∈ b, smallV p) (hd : smallV d) :
    CallsF Try.prog 69 [pts a, pts b, pt d] [] (.bool (spl a b d)) [] := by
  have h1 := top_bd hb sb (neg_small hd) _ (Nat.le_refl _)
  have h2 := hd
  simp only [smallV] at h2
  have k2 := c70 b (neg d) hb hnb sb (neg_small hd)
  simp only [neg] at k2 h1
  refine callsF_cwx hm hf69 (by simp [cf69]) ?_
  simp only [cf69, argsAl]
  repeat' first
    | (refine hK _ _ _ (by first | exact fun h => Bool.noConfusion h | exact fun _ => rfl) ?_; clear hK K)
    | (refine CWx.r fun K hK => ?_; simp (maxSteps := 4000000) (disch := omega) only [dr0, dr1, dr2, evsA, evpA, elemsA, elemsP, sizedA, optA, refA, consO, Am.get, hsetL, hset, hget, rowAt?, loadCells', fillA, List.foldl, List.all, List.map, List.set, List.take, List.drop, Option.getD, Option.map, if_true, if_false, Nat.reduceEqDiff, Int.reduceToNat, Nat.reduceAdd, Nat.reduceMul, Nat.reduceLT, Nat.reduceLeDiff, reduceCtorEq, ↓reduceIte, eqCells, foldAV, Option.some.injEq, catT, put_pt, put_pt0, put_pt1, ref_pts, ref_pt, ref_ixV, eqvA_pt, cont_ixV, cont_pts, len_pts, ia_ptsD, ia_pts, cells_pt, elem_pt, fold_pt2, pair_eta, len_ixV, ia_ixV, ix_length, ix_append, ix_take, ix_drop, wr62, natAdd1, natAddN, natSub1, natSubN, tmodN, tdivN, toNat_cast, Int.toNat_zero, Int.natCast_nonneg, ixg, ptsg, appB, if_pos, if_neg, List.isEmpty_nil, List.isEmpty_cons, elem_pts, cells_pts, elem_ixV, cells_ixV, Bool.or_self, Bool.false_or, Bool.or_false, or_true, true_or, Bool.false_and, not_true_eq_false, not_false_eq_true, one_ix, gX_tt, gX_ff, gX_tf, gX_ft, beq_self_eq_true, all_ix, ix_snoc, pts_snoc, bne_self_eq_false, ← List.map_take, ← List.map_drop, List.take_take, Nat.min_self, List.length_map, List.length_take,  slc_ixV, slc_pts, Int.zero_sub])
    | refine CWx.go ?_
    | (apply RCx.view (fid := 70) (caps := []) rfl rfl; (focus ((simp only [evsA, evA_t, evA_c, Am.get, Nat.reduceEqDiff, ↓reduceIte, List.nil_append, List.cons_append, List.append_nil]; repeat' first | exact viewArgs_nil | apply viewArgs_cons | exact viewG_flat (flat_pts _ _) _ | exact viewG_flat (flat_ixV _ _) _ | exact viewG_ixT rfl (by assumption) (by omega) | exact viewG_ptsL rfl (by first | omega | (simp; done) | (simp; omega)) | exact viewG_ix rfl (by first | omega | (simp; omega)) | exact viewG_flat rfl _; done))); (focus (refine c70 a d ha hna sa hd <;> first | omega | assumption)); (focus rfl); simp (maxSteps := 4000000) (disch := omega) only [dr0, dr1, dr2, evsA, evpA, elemsA, elemsP, sizedA, optA, refA, consO, Am.get, hsetL, hset, hget, rowAt?, loadCells', fillA, List.foldl, List.all, List.map, List.set, List.take, List.drop, Option.getD, Option.map, if_true, if_false, Nat.reduceEqDiff, Int.reduceToNat, Nat.reduceAdd, Nat.reduceMul, Nat.reduceLT, Nat.reduceLeDiff, reduceCtorEq, ↓reduceIte, eqCells, foldAV, Option.some.injEq, catT, put_pt, put_pt0, put_pt1, ref_pts, ref_pt, ref_ixV, eqvA_pt, cont_ixV, cont_pts, len_pts, ia_ptsD, ia_pts, cells_pt, elem_pt, fold_pt2, pair_eta, len_ixV, ia_ixV, ix_length, ix_append, ix_take, ix_drop, wr62, natAdd1, natAddN, natSub1, natSubN, tmodN, tdivN, toNat_cast, Int.toNat_zero, Int.natCast_nonneg, ixg, ptsg, appB, if_pos, if_neg, List.isEmpty_nil, List.isEmpty_cons, elem_pts, cells_pts, elem_ixV, cells_ixV, Bool.or_self, Bool.false_or, Bool.or_false, or_true, true_or, Bool.false_and, not_true_eq_false, not_false_eq_true, one_ix, gX_tt, gX_ff, gX_tf, gX_ft, beq_self_eq_true, all_ix, ix_snoc, pts_snoc, bne_self_eq_false, ← List.map_take, ← List.map_drop, List.take_take, Nat.min_self, List.length_map, List.length_take,  slc_ixV, slc_pts, Int.zero_sub])
    | (apply RCx.view (fid := 70) (caps := []) rfl rfl; (focus ((simp only [evsA, evA_t, evA_c, Am.get, Nat.reduceEqDiff, ↓reduceIte, List.nil_append, List.cons_append, List.append_nil]; repeat' first | exact viewArgs_nil | apply viewArgs_cons | exact viewG_flat (flat_pts _ _) _ | exact viewG_flat (flat_ixV _ _) _ | exact viewG_ixT rfl (by assumption) (by omega) | exact viewG_ptsL rfl (by first | omega | (simp; done) | (simp; omega)) | exact viewG_ix rfl (by first | omega | (simp; omega)) | exact viewG_flat rfl _; done))); (focus (refine k2 <;> first | omega | assumption)); (focus rfl); simp (maxSteps := 4000000) (disch := omega) only [dr0, dr1, dr2, evsA, evpA, elemsA, elemsP, sizedA, optA, refA, consO, Am.get, hsetL, hset, hget, rowAt?, loadCells', fillA, List.foldl, List.all, List.map, List.set, List.take, List.drop, Option.getD, Option.map, if_true, if_false, Nat.reduceEqDiff, Int.reduceToNat, Nat.reduceAdd, Nat.reduceMul, Nat.reduceLT, Nat.reduceLeDiff, reduceCtorEq, ↓reduceIte, eqCells, foldAV, Option.some.injEq, catT, put_pt, put_pt0, put_pt1, ref_pts, ref_pt, ref_ixV, eqvA_pt, cont_ixV, cont_pts, len_pts, ia_ptsD, ia_pts, cells_pt, elem_pt, fold_pt2, pair_eta, len_ixV, ia_ixV, ix_length, ix_append, ix_take, ix_drop, wr62, natAdd1, natAddN, natSub1, natSubN, tmodN, tdivN, toNat_cast, Int.toNat_zero, Int.natCast_nonneg, ixg, ptsg, appB, if_pos, if_neg, List.isEmpty_nil, List.isEmpty_cons, elem_pts, cells_pts, elem_ixV, cells_ixV, Bool.or_self, Bool.false_or, Bool.or_false, or_true, true_or, Bool.false_and, not_true_eq_false, not_false_eq_true, one_ix, gX_tt, gX_ff, gX_tf, gX_ft, beq_self_eq_true, all_ix, ix_snoc, pts_snoc, bne_self_eq_false, ← List.map_take, ← List.map_drop, List.take_take, Nat.min_self, List.length_map, List.length_take,  slc_ixV, slc_pts, Int.zero_sub])
    | (refine gX_split (fun hb => ?_) (fun hb => ?_) <;> (try simp only [hb]) <;> (try simp only [decide_eq_true_eq, decide_eq_false_iff_not, beq_iff_eq, bne_iff_ne, ne_eq, Bool.not_eq_true, Bool.not_eq_false, beq_eq_false_iff_ne, bne_eq_false_iff_eq, Decidable.not_not, Bool.not_eq_eq_eq_not, Bool.not_true, Bool.not_false, Bool.true_eq_false, Bool.false_eq_true, Int.not_lt, Int.not_le, Bool.and_eq_true, Bool.and_eq_false_iff, Bool.or_eq_true, Bool.or_eq_false_iff, reduceCtorEq] at hb) <;> simp (maxSteps := 4000000) (disch := omega) only [dr0, dr1, dr2, evsA, evpA, elemsA, elemsP, sizedA, optA, refA, consO, Am.get, hsetL, hset, hget, rowAt?, loadCells', fillA, List.foldl, List.all, List.map, List.set, List.take, List.drop, Option.getD, Option.map, if_true, if_false, Nat.reduceEqDiff, Int.reduceToNat, Nat.reduceAdd, Nat.reduceMul, Nat.reduceLT, Nat.reduceLeDiff, reduceCtorEq, ↓reduceIte, eqCells, foldAV, Option.some.injEq, catT, put_pt, put_pt0, put_pt1, ref_pts, ref_pt, ref_ixV, eqvA_pt, cont_ixV, cont_pts, len_pts, ia_ptsD, ia_pts, cells_pt, elem_pt, fold_pt2, pair_eta, len_ixV, ia_ixV, ix_length, ix_append, ix_take, ix_drop, wr62, natAdd1, natAddN, natSub1, natSubN, tmodN, tdivN, toNat_cast, Int.toNat_zero, Int.natCast_nonneg, ixg, ptsg, appB, if_pos, if_neg, List.isEmpty_nil, List.isEmpty_cons, elem_pts, cells_pts, elem_ixV, cells_ixV, Bool.or_self, Bool.false_or, Bool.or_false, or_true, true_or, Bool.false_and, not_true_eq_false, not_false_eq_true, one_ix, gX_tt, gX_ff, gX_tf, gX_ft, beq_self_eq_true, all_ix, ix_snoc, pts_snoc, bne_self_eq_false, ← List.map_take, ← List.map_drop, List.take_take, Nat.min_self, List.length_map, List.length_take,  slc_ixV, slc_pts, Int.zero_sub])
    | (refine CWx.br rfl (fun hb => ?_) (fun hb => ?_) <;> first | exact Bool.noConfusion hb | (first | (simp only [decide_eq_true_eq, decide_eq_false_iff_not, beq_iff_eq, bne_iff_ne, ne_eq, Bool.not_eq_true, Bool.not_eq_false, beq_eq_false_iff_ne, bne_eq_false_iff_eq, Decidable.not_not, Bool.not_eq_eq_eq_not, Bool.not_true, Bool.not_false, Bool.true_eq_false, Bool.false_eq_true, Int.not_lt, Int.not_le, Bool.and_eq_true, Bool.and_eq_false_iff, Bool.or_eq_true, Bool.or_eq_false_iff, reduceCtorEq] at hb; done) | ((try simp only [decide_eq_true_eq, decide_eq_false_iff_not, beq_iff_eq, bne_iff_ne, ne_eq, Bool.not_eq_true, Bool.not_eq_false, beq_eq_false_iff_ne, bne_eq_false_iff_eq, Decidable.not_not, Bool.not_eq_eq_eq_not, Bool.not_true, Bool.not_false, Bool.true_eq_false, Bool.false_eq_true, Int.not_lt, Int.not_le, Bool.and_eq_true, Bool.and_eq_false_iff, Bool.or_eq_true, Bool.or_eq_false_iff, reduceCtorEq] at hb); first | contradiction | skip)))
    | (refine CWx.e fun K hK => ?_; simp (maxSteps := 4000000) (disch := omega) only [dr0, dr1, dr2, evsA, evpA, elemsA, elemsP, sizedA, optA, refA, consO, Am.get, hsetL, hset, hget, rowAt?, loadCells', fillA, List.foldl, List.all, List.map, List.set, List.take, List.drop, Option.getD, Option.map, if_true, if_false, Nat.reduceEqDiff, Int.reduceToNat, Nat.reduceAdd, Nat.reduceMul, Nat.reduceLT, Nat.reduceLeDiff, reduceCtorEq, ↓reduceIte, eqCells, foldAV, Option.some.injEq, catT, put_pt, put_pt0, put_pt1, ref_pts, ref_pt, ref_ixV, eqvA_pt, cont_ixV, cont_pts, len_pts, ia_ptsD, ia_pts, cells_pt, elem_pt, fold_pt2, pair_eta, len_ixV, ia_ixV, ix_length, ix_append, ix_take, ix_drop, wr62, natAdd1, natAddN, natSub1, natSubN, tmodN, tdivN, toNat_cast, Int.toNat_zero, Int.natCast_nonneg, ixg, ptsg, appB, if_pos, if_neg, List.isEmpty_nil, List.isEmpty_cons, elem_pts, cells_pts, elem_ixV, cells_ixV, Bool.or_self, Bool.false_or, Bool.or_false, or_true, true_or, Bool.false_and, not_true_eq_false, not_false_eq_true, one_ix, gX_tt, gX_ff, gX_tf, gX_ft, beq_self_eq_true, all_ix, ix_snoc, pts_snoc, bne_self_eq_false, ← List.map_take, ← List.map_drop, List.take_take, Nat.min_self, List.length_map, List.length_take,  slc_ixV, slc_pts, Int.zero_sub])
    | refine CWx.seq ?_
    | refine CWx.skip ?_
    | refine CWx.exit ?_
    | (refine CWx.ret fun al hal => finK_ext hal (finK_pure (.inr rfl) (by simp only [resRV, Am.get, Nat.reduceEqDiff, ↓reduceIte]; exact rfl) ?_ (by first | rfl | simp [AV.allR, allRL])); first | (rfl; done) | ((simp only [tupAV]; congr <;> omega); done) | (simp [tupAV, *]; done))
def nrm (p q : Pt) : List Pt := [(-(sub q p).2, (sub q p).1), ((sub q p).2, -(sub q p).1)]
theorem nrm_length (p q : Pt) : (nrm p q).length = 2 := rfl
theorem nrm_take (p q : Pt) : (nrm p q).take 2 = nrm p q := rfl
theorem nrm_empty (p q : Pt) : (nrm p q).isEmpty = false := rfl
theorem c98 {p q : Pt} (hp : okP p = true) (hq : okP q = true) : CallsF Try.prog 98 [pt p, pt q] [] (.sl 0 0 0 2) [.row false 0 false 2 ((nrm p q).map pt)] := by
  have hs := sub_small hq hp
  have k := c75 hq hp
  obtain ⟨d, hd⟩ : ∃ d, d = sub q p := ⟨_, rfl⟩
  have hr : nrm p q = [(-d.2, d.1), (d.2, -d.1)] := by unfold nrm; rw [hd]
  rw [hr]
  rw [← hd] at hs k
  simp only [smallV] at hs
  refine callsF_cwx hm hf98 (by simp [cf98]) ?_
  simp only [cf98, argsAl]
  repeat' first
    | (refine hK _ _ _ (by first | exact fun h => Bool.noConfusion h | exact fun _ => rfl) ?_; clear hK K)
    | (refine CWx.r fun K hK => ?_; simp (maxSteps := 4000000) (disch := omega) only [dr0, dr1, dr2, evsA, evpA, elemsA, elemsP, sizedA, optA, refA, consO, Am.get, hsetL, hset, hget, rowAt?, loadCells', fillA, List.foldl, List.all, List.map, List.set, List.take, List.drop, Option.getD, Option.map, if_true, if_false, Nat.reduceEqDiff, Int.reduceToNat, Nat.reduceAdd, Nat.reduceMul, Nat.reduceLT, Nat.reduceLeDiff, reduceCtorEq, ↓reduceIte, eqCells, foldAV, Option.some.injEq, catT, put_pt, put_pt0, put_pt1, ref_pts, ref_pt, ref_ixV, eqvA_pt, cont_ixV, cont_pts, len_pts, ia_ptsD, ia_pts, cells_pt, elem_pt, fold_pt2, pair_eta, len_ixV, ia_ixV, ix_length, ix_append, ix_take, ix_drop, wr62, natAdd1, natAddN, natSub1, natSubN, tmodN, tdivN, toNat_cast, Int.toNat_zero, Int.natCast_nonneg, ixg, ptsg, appB, if_pos, if_neg, List.isEmpty_nil, List.isEmpty_cons, elem_pts, cells_pts, elem_ixV, cells_ixV, Bool.or_self, Bool.false_or, Bool.or_false, or_true, true_or, Bool.false_and, not_true_eq_false, not_false_eq_true, one_ix, gX_tt, gX_ff, gX_tf, gX_ft, beq_self_eq_true, all_ix, ix_snoc, pts_snoc, bne_self_eq_false, ← List.map_take, ← List.map_drop, List.take_take, Nat.min_self, List.length_map, List.length_take,  slc_ixV, slc_pts, Int.zero_sub])
    | refine CWx.go ?_
    | (apply RCx.view (fid := 75) (caps := []) rfl rfl; (focus ((simp only [evsA, evA_t, evA_c, Am.get, Nat.reduceEqDiff, ↓reduceIte, List.nil_append, List.cons_append, List.append_nil]; repeat' first | exact viewArgs_nil | apply viewArgs_cons | exact viewG_flat (flat_pts _ _) _ | exact viewG_flat (flat_ixV _ _) _ | exact viewG_ixT rfl (by assumption) (by omega) | exact viewG_ptsL rfl (by first | omega | (simp; done) | (simp; omega)) | exact viewG_ix rfl (by first | omega | (simp; omega)) | exact viewG_flat rfl _; done))); (focus (refine k <;> first | omega | assumption)); (focus rfl); simp (maxSteps := 4000000) (disch := omega) only [dr0, dr1, dr2, evsA, evpA, elemsA, elemsP, sizedA, optA, refA, consO, Am.get, hsetL, hset, hget, rowAt?, loadCells', fillA, List.foldl, List.all, List.map, List.set, List.take, List.drop, Option.getD, Option.map, if_true, if_false, Nat.reduceEqDiff, Int.reduceToNat, Nat.reduceAdd, Nat.reduceMul, Nat.reduceLT, Nat.reduceLeDiff, reduceCtorEq, ↓reduceIte, eqCells, foldAV, Option.some.injEq, catT, put_pt, put_pt0, put_pt1, ref_pts, ref_pt, ref_ixV, eqvA_pt, cont_ixV, cont_pts, len_pts, ia_ptsD, ia_pts, cells_pt, elem_pt, fold_pt2, pair_eta, len_ixV, ia_ixV, ix_length, ix_append, ix_take, ix_drop, wr62, natAdd1, natAddN, natSub1, natSubN, tmodN, tdivN, toNat_cast, Int.toNat_zero, Int.natCast_nonneg, ixg, ptsg, appB, if_pos, if_neg, List.isEmpty_nil, List.isEmpty_cons, elem_pts, cells_pts, elem_ixV, cells_ixV, Bool.or_self, Bool.false_or, Bool.or_false, or_true, true_or, Bool.false_and, not_true_eq_false, not_false_eq_true, one_ix, gX_tt, gX_ff, gX_tf, gX_ft, beq_self_eq_true, all_ix, ix_snoc, pts_snoc, bne_self_eq_false, ← List.map_take, ← List.map_drop, List.take_take, Nat.min_self, List.length_map, List.length_take,  slc_ixV, slc_pts, Int.zero_sub])
    | (refine gX_split (fun hb => ?_) (fun hb => ?_) <;> (try simp only [hb]) <;> (try simp only [decide_eq_true_eq, decide_eq_false_iff_not, beq_iff_eq, bne_iff_ne, ne_eq, Bool.not_eq_true, Bool.not_eq_false, beq_eq_false_iff_ne, bne_eq_false_iff_eq, Decidable.not_not, Bool.not_eq_eq_eq_not, Bool.not_true, Bool.not_false, Bool.true_eq_false, Bool.false_eq_true, Int.not_lt, Int.not_le, Bool.and_eq_true, Bool.and_eq_false_iff, Bool.or_eq_true, Bool.or_eq_false_iff, reduceCtorEq] at hb) <;> simp (maxSteps := 4000000) (disch := omega) only [dr0, dr1, dr2, evsA, evpA, elemsA, elemsP, sizedA, optA, refA, consO, Am.get, hsetL, hset, hget, rowAt?, loadCells', fillA, List.foldl, List.all, List.map, List.set, List.take, List.drop, Option.getD, Option.map, if_true, if_false, Nat.reduceEqDiff, Int.reduceToNat, Nat.reduceAdd, Nat.reduceMul, Nat.reduceLT, Nat.reduceLeDiff, reduceCtorEq, ↓reduceIte, eqCells, foldAV, Option.some.injEq, catT, put_pt, put_pt0, put_pt1, ref_pts, ref_pt, ref_ixV, eqvA_pt, cont_ixV, cont_pts, len_pts, ia_ptsD, ia_pts, cells_pt, elem_pt, fold_pt2, pair_eta, len_ixV, ia_ixV, ix_length, ix_append, ix_take, ix_drop, wr62, natAdd1, natAddN, natSub1, natSubN, tmodN, tdivN, toNat_cast, Int.toNat_zero, Int.natCast_nonneg, ixg, ptsg, appB, if_pos, if_neg, List.isEmpty_nil, List.isEmpty_cons, elem_pts, cells_pts, elem_ixV, cells_ixV, Bool.or_self, Bool.false_or, Bool.or_false, or_true, true_or, Bool.false_and, not_true_eq_false, not_false_eq_true, one_ix, gX_tt, gX_ff, gX_tf, gX_ft, beq_self_eq_true, all_ix, ix_snoc, pts_snoc, bne_self_eq_false, ← List.map_take, ← List.map_drop, List.take_take, Nat.min_self, List.length_map, List.length_take,  slc_ixV, slc_pts, Int.zero_sub])
    | (refine CWx.br rfl (fun hb => ?_) (fun hb => ?_) <;> first | exact Bool.noConfusion hb | (first | (simp only [decide_eq_true_eq, decide_eq_false_iff_not, beq_iff_eq, bne_iff_ne, ne_eq, Bool.not_eq_true, Bool.not_eq_false, beq_eq_false_iff_ne, bne_eq_false_iff_eq, Decidable.not_not, Bool.not_eq_eq_eq_not, Bool.not_true, Bool.not_false, Bool.true_eq_false, Bool.false_eq_true, Int.not_lt, Int.not_le, Bool.and_eq_true, Bool.and_eq_false_iff, Bool.or_eq_true, Bool.or_eq_false_iff, reduceCtorEq] at hb; done) | ((try simp only [decide_eq_true_eq, decide_eq_false_iff_not, beq_iff_eq, bne_iff_ne, ne_eq, Bool.not_eq_true, Bool.not_eq_false, beq_eq_false_iff_ne, bne_eq_false_iff_eq, Decidable.not_not, Bool.not_eq_eq_eq_not, Bool.not_true, Bool.not_false, Bool.true_eq_false, Bool.false_eq_true, Int.not_lt, Int.not_le, Bool.and_eq_true, Bool.and_eq_false_iff, Bool.or_eq_true, Bool.or_eq_false_iff, reduceCtorEq] at hb); first | contradiction | skip)))
    | (refine CWx.e fun K hK => ?_; simp (maxSteps := 4000000) (disch := omega) only [dr0, dr1, dr2, evsA, evpA, elemsA, elemsP, sizedA, optA, refA, consO, Am.get, hsetL, hset, hget, rowAt?, loadCells', fillA, List.foldl, List.all, List.map, List.set, List.take, List.drop, Option.getD, Option.map, if_true, if_false, Nat.reduceEqDiff, Int.reduceToNat, Nat.reduceAdd, Nat.reduceMul, Nat.reduceLT, Nat.reduceLeDiff, reduceCtorEq, ↓reduceIte, eqCells, foldAV, Option.some.injEq, catT, put_pt, put_pt0, put_pt1, ref_pts, ref_pt, ref_ixV, eqvA_pt, cont_ixV, cont_pts, len_pts, ia_ptsD, ia_pts, cells_pt, elem_pt, fold_pt2, pair_eta, len_ixV, ia_ixV, ix_length, ix_append, ix_take, ix_drop, wr62, natAdd1, natAddN, natSub1, natSubN, tmodN, tdivN, toNat_cast, Int.toNat_zero, Int.natCast_nonneg, ixg, ptsg, appB, if_pos, if_neg, List.isEmpty_nil, List.isEmpty_cons, elem_pts, cells_pts, elem_ixV, cells_ixV, Bool.or_self, Bool.false_or, Bool.or_false, or_true, true_or, Bool.false_and, not_true_eq_false, not_false_eq_true, one_ix, gX_tt, gX_ff, gX_tf, gX_ft, beq_self_eq_true, all_ix, ix_snoc, pts_snoc, bne_self_eq_false, ← List.map_take, ← List.map_drop, List.take_take, Nat.min_self, List.length_map, List.length_take,  slc_ixV, slc_pts, Int.zero_sub])
    | refine CWx.seq ?_
    | refine CWx.skip ?_
    | refine CWx.exit ?_
    | (refine CWx.ret fun al hal => finK_ext hal (finK_pure (.inr rfl) (by simp only [resRV, Am.get, Nat.reduceEqDiff, ↓reduceIte]; exact rfl) ?_ (by first | rfl | simp [AV.allR, allRL])); first | (rfl; done) | ((simp only [tupAV]; congr <;> omega); done) | (simp [tupAV, *]; done))
    | (refine CWx.ret fun al hal => finK_ext hal (finK_new (.inr rfl) (xs := [.sl 4 0 0 2]) (b := 4) (g := 0) (nil := false) (frz := false) (sz := 2) (ys := [pt (-d.2, d.1), pt (d.2, -d.1)]) (by simp [resRV, Am.get]) rfl rfl ?_ ?_) <;> simp [tupAV, AV.allR, sigP, AV.mapR, sigF])
/-- Both normals, as an array. -/
def quad (d : Pt) : AV := .agg [.int .i64 (-d.2), .int .i64 d.1, .int .i64 d.2, .int .i64 (-d.1)]
theorem c95 {p q : Pt} (hp : okP p = true) (hq : okP q = true) : CallsF Try.prog 95 [pt p, pt q] [] (quad (sub q p)) [] := by
  have hs := sub_small hq hp
  have k := c57' hq hp
  obtain ⟨d, hd⟩ : ∃ d, d = sub q p := ⟨_, rfl⟩
  rw [← hd] at hs k ⊢
  simp only [smallV] at hs
  refine callsF_cwx hm hf95 (by simp [cf95]) ?_
  simp only [cf95, argsAl]
  repeat' first
    | (refine hK _ _ _ (by first | exact fun h => Bool.noConfusion h | exact fun _ => rfl) ?_; clear hK K)
    | (refine CWx.r fun K hK => ?_; simp (maxSteps := 4000000) (disch := omega) only [dr0, dr1, dr2, evsA, evpA, elemsA, elemsP, sizedA, optA, refA, consO, Am.get, hsetL, hset, hget, rowAt?, loadCells', fillA, List.foldl, List.all, List.map, List.set, List.take, List.drop, Option.getD, Option.map, if_true, if_false, Nat.reduceEqDiff, Int.reduceToNat, Nat.reduceAdd, Nat.reduceMul, Nat.reduceLT, Nat.reduceLeDiff, reduceCtorEq, ↓reduceIte, eqCells, foldAV, Option.some.injEq, catT, put_pt, put_pt0, put_pt1, ref_pts, ref_pt, ref_ixV, eqvA_pt, cont_ixV, cont_pts, len_pts, ia_ptsD, ia_pts, cells_pt, elem_pt, fold_pt2, pair_eta, len_ixV, ia_ixV, ix_length, ix_append, ix_take, ix_drop, wr62, natAdd1, natAddN, natSub1, natSubN, tmodN, tdivN, toNat_cast, Int.toNat_zero, Int.natCast_nonneg, ixg, ptsg, appB, if_pos, if_neg, List.isEmpty_nil, List.isEmpty_cons, elem_pts, cells_pts, elem_ixV, cells_ixV, Bool.or_self, Bool.false_or, Bool.or_false, or_true, true_or, Bool.false_and, not_true_eq_false, not_false_eq_true, one_ix, gX_tt, gX_ff, gX_tf, gX_ft, beq_self_eq_true, all_ix, ix_snoc, pts_snoc, bne_self_eq_false, ← List.map_take, ← List.map_drop, List.take_take, Nat.min_self, List.length_map, List.length_take,  slc_ixV, slc_pts, Int.zero_sub])
    | refine CWx.go ?_
    | (apply RCx.view (fid := 57) (caps := []) rfl rfl; (focus ((simp only [evsA, evA_t, evA_c, Am.get, Nat.reduceEqDiff, ↓reduceIte, List.nil_append, List.cons_append, List.append_nil]; repeat' first | exact viewArgs_nil | apply viewArgs_cons | exact viewG_flat (flat_pts _ _) _ | exact viewG_flat (flat_ixV _ _) _ | exact viewG_ixT rfl (by assumption) (by omega) | exact viewG_ptsL rfl (by first | omega | (simp; done) | (simp; omega)) | exact viewG_ix rfl (by first | omega | (simp; omega)) | exact viewG_flat rfl _; done))); (focus (refine k <;> first | omega | assumption)); (focus rfl); simp (maxSteps := 4000000) (disch := omega) only [dr0, dr1, dr2, evsA, evpA, elemsA, elemsP, sizedA, optA, refA, consO, Am.get, hsetL, hset, hget, rowAt?, loadCells', fillA, List.foldl, List.all, List.map, List.set, List.take, List.drop, Option.getD, Option.map, if_true, if_false, Nat.reduceEqDiff, Int.reduceToNat, Nat.reduceAdd, Nat.reduceMul, Nat.reduceLT, Nat.reduceLeDiff, reduceCtorEq, ↓reduceIte, eqCells, foldAV, Option.some.injEq, catT, put_pt, put_pt0, put_pt1, ref_pts, ref_pt, ref_ixV, eqvA_pt, cont_ixV, cont_pts, len_pts, ia_ptsD, ia_pts, cells_pt, elem_pt, fold_pt2, pair_eta, len_ixV, ia_ixV, ix_length, ix_append, ix_take, ix_drop, wr62, natAdd1, natAddN, natSub1, natSubN, tmodN, tdivN, toNat_cast, Int.toNat_zero, Int.natCast_nonneg, ixg, ptsg, appB, if_pos, if_neg, List.isEmpty_nil, List.isEmpty_cons, elem_pts, cells_pts, elem_ixV, cells_ixV, Bool.or_self, Bool.false_or, Bool.or_false, or_true, true_or, Bool.false_and, not_true_eq_false, not_false_eq_true, one_ix, gX_tt, gX_ff, gX_tf, gX_ft, beq_self_eq_true, all_ix, ix_snoc, pts_snoc, bne_self_eq_false, ← List.map_take, ← List.map_drop, List.take_take, Nat.min_self, List.length_map, List.length_take,  slc_ixV, slc_pts, Int.zero_sub])
    | (refine gX_split (fun hb => ?_) (fun hb => ?_) <;> (try simp only [hb]) <;> (try simp only [decide_eq_true_eq, decide_eq_false_iff_not, beq_iff_eq, bne_iff_ne, ne_eq, Bool.not_eq_true, Bool.not_eq_false, beq_eq_false_iff_ne, bne_eq_false_iff_eq, Decidable.not_not, Bool.not_eq_eq_eq_not, Bool.not_true, Bool.not_false, Bool.true_eq_false, Bool.false_eq_true, Int.not_lt, Int.not_le, Bool.and_eq_true, Bool.and_eq_false_iff, Bool.or_eq_true, Bool.or_eq_false_iff, reduceCtorEq] at hb) <;> simp (maxSteps := 4000000) (disch := omega) only [dr0, dr1, dr2, evsA, evpA, elemsA, elemsP, sizedA, optA, refA, consO, Am.get, hsetL, hset, hget, rowAt?, loadCells', fillA, List.foldl, List.all, List.map, List.set, List.take, List.drop, Option.getD, Option.map, if_true, if_false, Nat.reduceEqDiff, Int.reduceToNat, Nat.reduceAdd, Nat.reduceMul, Nat.reduceLT, Nat.reduceLeDiff, reduceCtorEq, ↓reduceIte, eqCells, foldAV, Option.some.injEq, catT, put_pt, put_pt0, put_pt1, ref_pts, ref_pt, ref_ixV, eqvA_pt, cont_ixV, cont_pts, len_pts, ia_ptsD, ia_pts, cells_pt, elem_pt, fold_pt2, pair_eta, len_ixV, ia_ixV, ix_length, ix_append, ix_take, ix_drop, wr62, natAdd1, natAddN, natSub1, natSubN, tmodN, tdivN, toNat_cast, Int.toNat_zero, Int.natCast_nonneg, ixg, ptsg, appB, if_pos, if_neg, List.isEmpty_nil, List.isEmpty_cons, elem_pts, cells_pts, elem_ixV, cells_ixV, Bool.or_self, Bool.false_or, Bool.or_false, or_true, true_or, Bool.false_and, not_true_eq_false, not_false_eq_true, one_ix, gX_tt, gX_ff, gX_tf, gX_ft, beq_self_eq_true, all_ix, ix_snoc, pts_snoc, bne_self_eq_false, ← List.map_take, ← List.map_drop, List.take_take, Nat.min_self, List.length_map, List.length_take,  slc_ixV, slc_pts, Int.zero_sub])
    | (refine CWx.br rfl (fun hb => ?_) (fun hb => ?_) <;> first | exact Bool.noConfusion hb | (first | (simp only [decide_eq_true_eq, decide_eq_false_iff_not, beq_iff_eq, bne_iff_ne, ne_eq, Bool.not_eq_true, Bool.not_eq_false, beq_eq_false_iff_ne, bne_eq_false_iff_eq, Decidable.not_not, Bool.not_eq_eq_eq_not, Bool.not_true, Bool.not_false, Bool.true_eq_false, Bool.false_eq_true, Int.not_lt, Int.not_le, Bool.and_eq_true, Bool.and_eq_false_iff, Bool.or_eq_true, Bool.or_eq_false_iff, reduceCtorEq] at hb; done) | ((try simp only [decide_eq_true_eq, decide_eq_false_iff_not, beq_iff_eq, bne_iff_ne, ne_eq, Bool.not_eq_true, Bool.not_eq_false, beq_eq_false_iff_ne, bne_eq_false_iff_eq, Decidable.not_not, Bool.not_eq_eq_eq_not, Bool.not_true, Bool.not_false, Bool.true_eq_false, Bool.false_eq_true, Int.not_lt, Int.not_le, Bool.and_eq_true, Bool.and_eq_false_iff, Bool.or_eq_true, Bool.or_eq_false_iff, reduceCtorEq] at hb); first | contradiction | skip)))
    | (refine CWx.e fun K hK => ?_; simp (maxSteps := 4000000) (disch := omega) only [dr0, dr1, dr2, evsA, evpA, elemsA, elemsP, sizedA, optA, refA, consO, Am.get, hsetL, hset, hget, rowAt?, loadCells', fillA, List.foldl, List.all, List.map, List.set, List.take, List.drop, Option.getD, Option.map, if_true, if_false, Nat.reduceEqDiff, Int.reduceToNat, Nat.reduceAdd, Nat.reduceMul, Nat.reduceLT, Nat.reduceLeDiff, reduceCtorEq, ↓reduceIte, eqCells, foldAV, Option.some.injEq, catT, put_pt, put_pt0, put_pt1, ref_pts, ref_pt, ref_ixV, eqvA_pt, cont_ixV, cont_pts, len_pts, ia_ptsD, ia_pts, cells_pt, elem_pt, fold_pt2, pair_eta, len_ixV, ia_ixV, ix_length, ix_append, ix_take, ix_drop, wr62, natAdd1, natAddN, natSub1, natSubN, tmodN, tdivN, toNat_cast, Int.toNat_zero, Int.natCast_nonneg, ixg, ptsg, appB, if_pos, if_neg, List.isEmpty_nil, List.isEmpty_cons, elem_pts, cells_pts, elem_ixV, cells_ixV, Bool.or_self, Bool.false_or, Bool.or_false, or_true, true_or, Bool.false_and, not_true_eq_false, not_false_eq_true, one_ix, gX_tt, gX_ff, gX_tf, gX_ft, beq_self_eq_true, all_ix, ix_snoc, pts_snoc, bne_self_eq_false, ← List.map_take, ← List.map_drop, List.take_take, Nat.min_self, List.length_map, List.length_take,  slc_ixV, slc_pts, Int.zero_sub])
    | refine CWx.seq ?_
    | refine CWx.skip ?_
    | refine CWx.exit ?_
    | (refine CWx.ret fun al hal => finK_ext hal (finK_pure (.inr rfl) (by simp only [resRV, Am.get, Nat.reduceEqDiff, ↓reduceIte]; exact rfl) ?_ (by first | rfl | simp [AV.allR, allRL])); first | (rfl; done) | ((simp only [tupAV]; congr <;> omega); done) | (simp [tupAV, *]; done))
end Go.Hull
end
