/- Antipodal: walk.
   Conditions: no more than eight points, if they are in range. -/
import Derived.Test.YtkbpkbjfphdgeaaPart13
section
set_option linter.unusedSimpArgs false
set_option linter.unusedVariables false
set_option maxHeartbeats 8000000
set_option maxRecDepth 100000
namespace Go.Hull
open Go Go.Am Go.Proofs

def qJ (S : List Nat) (ok : Nat → Nat → Bool) (i : Nat) (s : List Pt) : Nat → List Pt
  | 0 => s
  | m + 1 => qJ S ok i s m ++ (if ok (S.getD i 0) (S.getD (i + 1 + m) 0) = true then [(((S.getD i 0 : Nat) : Int), ((S.getD (i + 1 + m) 0 : Nat) : Int))] else [])
def qI (S : List Nat) (ok : Nat → Nat → Bool) : Nat → List Pt
  | 0 => []
  | i + 1 => qJ S ok i (qI S ok i) (S.length - (i + 1))
theorem qI_zero (S : List Nat) (ok : Nat → Nat → Bool) : qI S ok 0 = [] := rfl
theorem qJ_zero (S : List Nat) (ok : Nat → Nat → Bool) (i : Nat) (s : List Pt) : qJ S ok i s 0 = s := rfl
theorem qI_succ (S : List Nat) (ok : Nat → Nat → Bool) (i : Nat) : qI S ok (i + 1) = qJ S ok i (qI S ok i) (S.length - (i + 1)) := rfl
theorem qJ_t (S : List Nat) (ok : Nat → Nat → Bool) (i m : Nat) (s : List Pt) (h : ok (S.getD i 0) (S.getD (i + 1 + m) 0) = true) : qJ S ok i s (m + 1) = qJ S ok i s m ++ [(((S.getD i 0 : Nat) : Int), ((S.getD (i + 1 + m) 0 : Nat) : Int))] := by rw [qJ, if_pos h]
theorem qJ_f (S : List Nat) (ok : Nat → Nat → Bool) (i m : Nat) (s : List Pt) (h : ok (S.getD i 0) (S.getD (i + 1 + m) 0) = false) : qJ S ok i s (m + 1) = qJ S ok i s m := by rw [qJ, if_neg (by rw [h]; decide), List.append_nil]
theorem qJ_len (S : List Nat) (ok : Nat → Nat → Bool) (i : Nat) (s : List Pt) (m : Nat) : (qJ S ok i s m).length ≤ s.length + m := by
  induction m with
  | zero => exact Nat.le_refl _
  | succ m ih => rw [qJ, List.length_append]; split <;> simp <;> omega
theorem qI_len (S : List Nat) (ok : Nat → Nat → Bool) (i : Nat) (hS : S.length ≤ 8) (hi : i ≤ 8) : (qI S ok i).length ≤ 64 := by
  have : ∀ i, (qI S ok i).length ≤ i * S.length := by
    intro i
    induction i with
    | zero => simp [qI]
    | succ i ih =>
      have := qJ_len S ok i (qI S ok i) (S.length - (i + 1))
      rw [qI, Nat.succ_mul]; omega
  have h1 := this i
  have h2 := Nat.mul_le_mul hi hS
  omega
/-- The vertices by number, and the antipodal pairs as the code makes them. -/
def vS (l : List Pt) : List Nat := insort ltN (hullI l)
def opL (l : List Pt) (i j : Nat) : Bool := oppB ((vS l).map (P l)) (P l i) (P l j)
def antH (l : List Pt) : List Pt × Int := if chk l ≠ 0 then ([], chk l) else (qI (vS l) (opL l) (vS l).length, 0)
theorem c20 (l : List Pt) (hn : l.length < 4611686018427387904) (h8 : chk l = 0 → l.length ≤ 8) : CallsF Try.prog 20 [pts l] [] (.tup [.sl 0 0 0 (antH l).1.length, .int .i64 (antH l).2]) [.row (antH l).1.isEmpty 0 false 2 ((antH l).1.map pt)] := by
  have k50 := c50 l hn
  by_cases hc : chk l = 0
  · rw [hc] at k50
    have hr : antH l = (qI (vS l) (opL l) (vS l).length, 0) := by unfold antH; rw [if_neg (by simp [hc])]
    rw [hr]
    by_cases hl : 0 < l.length
    · have l8 := h8 hc
      have oka := chk_ok hc
      have qa := ok_P oka
      obtain ⟨zs, z1, z2, z3⟩ := c51' l (by omega) oka
      have hle := hull_le (l := l)
      have ne := (hullT l hl).ne
      have k63 := c63 (hullI l) ne (by omega)
      have hSl : (vS l).length = (hullI l).length := insort_len _ _
      have sm : ∀ k, k < (vS l).length → (vS l).getD k 0 < l.length := fun k hk => hull_mem _ ((insort_mem (lt := ltN) _ _).1 (getD_mem hk))
      have k65 := fun i j (hi : i < l.length) (hj : j < l.length) => c65 ((vS l).map (P l)) (P l i) (P l j) (by rw [List.length_map]; omega) (by rw [List.length_map]; omega) (by
        rw [List.all_eq_true]
        intro p hp
        obtain ⟨i, hi, rfl⟩ := List.mem_map.1 hp
        exact qa i (hull_mem i ((insort_mem (lt := ltN) _ _).1 hi))) (qa i hi) (qa j hj)
      have hop : ∀ i j, oppB ((vS l).map (P l)) (P l i) (P l j) = opL l i j := fun _ _ => rfl
      obtain ⟨ok, hok⟩ : ∃ ok, ok = opL l := ⟨_, rfl⟩
      rw [← hok] at hop ⊢
      have hVl : ((vS l).map (P l)).length = (hullI l).length := by rw [List.length_map]; exact hSl
      obtain ⟨n, hnv⟩ : ∃ n, n = (hullI l).length := ⟨_, rfl⟩
      have hk63 : insort ltN (hullI l) = vS l := rfl
      rw [hk63] at k63
      obtain ⟨v, hv⟩ : ∃ v, v = hullI l := ⟨_, rfl⟩
      rw [← hv] at z1 z2 z3 hle k63 hSl ne hVl hnv
      obtain ⟨V, hV⟩ : ∃ V, V = (vS l).map (P l) := ⟨_, rfl⟩
      rw [← hV] at k65 hop hVl
      obtain ⟨S, hS⟩ : ∃ S, S = vS l := ⟨_, rfl⟩
      rw [← hS] at k63 hSl sm hV ⊢
      have hSt : S.take S.length = S := List.take_of_length_le (Nat.le_refl _)
      have lI := fun i => qI_len S ok i (by omega)
      have lJ := fun i => qJ_len S ok i (qI S ok i)
      rw [← hnv] at z1 z2 z3 hle hSl ne hVl k63
      rw [hSl]
      refine callsF_cwx hm hf20 (by simp [cf20]) ?_
      simp only [cf20, argsAl]
      repeat' first
        | (refine hK _ _ _ (by first | exact fun h => Bool.noConfusion h | exact fun _ => rfl) ?_; clear hK K)
        | (refine CWx.r fun K hK => ?_; simp (maxSteps := 4000000) (disch := omega) only [dr0, dr1, dr2, dr3, dr4, if_true, if_false, Option.some.injEq, Nat.reduceEqDiff, Int.reduceToNat, Nat.reduceSub, Nat.reduceAdd, Nat.reduceMul, Nat.reduceLT, Nat.reduceLeDiff, reduceCtorEq, ↓reduceIte, catT, enc0, enc1, if_pos, if_neg, AV.ren, ren_row_ix, hop])
        | refine CWx.go ?_
        | (apply RCx.view (fid := 50) (caps := []) rfl rfl; (focus ((simp only [evsA, evA_t, evA_c, Am.get, Nat.reduceEqDiff, ↓reduceIte, List.nil_append, List.cons_append, List.append_nil]; repeat' first | exact viewArgs_nil | apply viewArgs_cons | exact viewG_flat (flat_pts _ _) _ | exact viewG_flat (flat_ixV _ _) _ | exact viewG_flat (flat_sv _ _) _ | exact viewG_ixT rfl (by assumption) (by omega) | exact viewG_ptsL rfl (by first | omega | (simp; done) | (simp; omega)) | exact viewG_ix rfl (by first | omega | (simp; omega)) | exact viewG_flat rfl _; done))); (focus (refine k50 <;> first | omega | assumption)); (focus rfl); simp (maxSteps := 4000000) (disch := omega) only [dr0, dr1, dr2, dr3, dr4, if_true, if_false, Option.some.injEq, Nat.reduceEqDiff, Int.reduceToNat, Nat.reduceSub, Nat.reduceAdd, Nat.reduceMul, Nat.reduceLT, Nat.reduceLeDiff, reduceCtorEq, ↓reduceIte, catT, enc0, enc1, if_pos, if_neg, AV.ren, ren_row_ix, hop])
        | (refine RCx.viewR (fid := 51) (caps := []) rfl rfl (viewArgs_flat1 (flat_pts l 2)) z3 (by simp only [AV.clean, clean_ix, Bool.and_self]) ?_; simp (maxSteps := 4000000) (disch := omega) only [dr0, dr1, dr2, dr3, dr4, if_true, if_false, Option.some.injEq, Nat.reduceEqDiff, Int.reduceToNat, Nat.reduceSub, Nat.reduceAdd, Nat.reduceMul, Nat.reduceLT, Nat.reduceLeDiff, reduceCtorEq, ↓reduceIte, catT, enc0, enc1, if_pos, if_neg, AV.ren, ren_row_ix, hop])
        | (refine RCx.oneN (fid := 64) (caps := []) (r' := .clo 94 [.ptr 2 0 0 0]) (nb' := .row false 0 false 1 [.sl 1 0 0 n]) rfl rfl (b := 1) (.cons (.row 0 0 n) .nil) (c64 zs n (by omega)) (by simp) rfl (by simp only [Blk.lt, ltL_ix]) rfl (by simp only [Blk.lt, ltL_ix]) (by simp only [Blk.clean, cleanL_ix]) rfl rfl ?_; simp (maxSteps := 4000000) (disch := omega) only [dr0, dr1, dr2, dr3, dr4, if_true, if_false, Option.some.injEq, Nat.reduceEqDiff, Int.reduceToNat, Nat.reduceSub, Nat.reduceAdd, Nat.reduceMul, Nat.reduceLT, Nat.reduceLeDiff, reduceCtorEq, ↓reduceIte, catT, enc0, enc1, if_pos, if_neg, AV.ren, ren_row_ix, hop])
        | (refine RCx.viewR (fid := 63) (caps := []) rfl rfl (viewArgs1 (viewG_cloS rfl rfl z1 z2)) k63 (by simp only [AV.clean, clean_ix, Bool.and_self]) ?_; simp (maxSteps := 4000000) (disch := omega) only [dr0, dr1, dr2, dr3, dr4, if_true, if_false, Option.some.injEq, Nat.reduceEqDiff, Int.reduceToNat, Nat.reduceSub, Nat.reduceAdd, Nat.reduceMul, Nat.reduceLT, Nat.reduceLeDiff, reduceCtorEq, ↓reduceIte, catT, enc0, enc1, if_pos, if_neg, AV.ren, ren_row_ix, hop])
        | (apply RCx.view (fid := 65) (caps := []) rfl rfl; (focus ((simp only [evsA, evA_t, evA_c, Am.get, Nat.reduceEqDiff, ↓reduceIte, List.nil_append, List.cons_append, List.append_nil]; repeat' first | exact viewArgs_nil | apply viewArgs_cons | exact viewG_flat (flat_pts _ _) _ | exact viewG_flat (flat_ixV _ _) _ | exact viewG_flat (flat_sv _ _) _ | exact viewG_ixT rfl (by assumption) (by omega) | exact viewG_ptsL rfl (by first | omega | (simp; done) | (simp; omega)) | exact viewG_ix rfl (by first | omega | (simp; omega)) | exact viewG_flat rfl _; done))); (focus (refine k65 _ _ ?_ ?_ <;> first | omega | assumption)); (focus rfl); simp (maxSteps := 4000000) (disch := omega) only [dr0, dr1, dr2, dr3, dr4, if_true, if_false, Option.some.injEq, Nat.reduceEqDiff, Int.reduceToNat, Nat.reduceSub, Nat.reduceAdd, Nat.reduceMul, Nat.reduceLT, Nat.reduceLeDiff, reduceCtorEq, ↓reduceIte, catT, enc0, enc1, if_pos, if_neg, AV.ren, ren_row_ix, hop])
        | (refine gX_split (fun hb => ?_) (fun hb => ?_) <;> (try simp only [hb]) <;> (try simp only [bset0, reduceCtorEq] at hb) <;> first | omega | simp (maxSteps := 4000000) (disch := omega) only [dr0, dr1, dr2, dr3, dr4, if_true, if_false, Option.some.injEq, Nat.reduceEqDiff, Int.reduceToNat, Nat.reduceSub, Nat.reduceAdd, Nat.reduceMul, Nat.reduceLT, Nat.reduceLeDiff, reduceCtorEq, ↓reduceIte, catT, enc0, enc1, if_pos, if_neg, AV.ren, ren_row_ix, hop])
        | (refine CWx.br rfl (fun hb => ?_) (fun hb => ?_) <;> first | exact Bool.noConfusion hb | (first | (simp only [bset0, reduceCtorEq] at hb; done) | ((try simp only [bset0, reduceCtorEq] at hb); first | omega | skip)))
        | (refine CWx.e fun K hK => ?_; simp (maxSteps := 4000000) (disch := omega) only [dr0, dr1, dr2, dr3, dr4, if_true, if_false, Option.some.injEq, Nat.reduceEqDiff, Int.reduceToNat, Nat.reduceSub, Nat.reduceAdd, Nat.reduceMul, Nat.reduceLT, Nat.reduceLeDiff, reduceCtorEq, ↓reduceIte, catT, enc0, enc1, if_pos, if_neg, AV.ren, ren_row_ix, hop])
        | (refine CWx.block (id := 0) ?_; refine CWx.loopK (ι := Nat × Nat) [0, 5, 23, 24] (fun q => n - q.1) (fun q => [(25, .int .i64 (q.1 : Int)), (6, .sl 4 q.2 0 q.1)]) (fun q => [.row true 0 false 2 [], .row false 0 false 1 (ix zs), .row false 0 false 1 [.sl 1 0 0 n], .row false 0 false 1 (ix S), .row (decide (q.1 = 0)) q.2 false 2 (((S.take q.1).map (P l)).map pt)]) (fun q => q.1 ≤ n) (fun i => by simp only [keepA, Am.get, List.cons_append, List.nil_append, Nat.reduceEqDiff, ↓reduceIte]; exact rfl) ((0, 0)) ?_ ?_ (fun q hi => ?_); (focus ((try dsimp only) <;> (first | trivial | omega | (refine ⟨?_, ?_⟩ <;> first | omega | trivial | simp_all) | simp_all); done)); (focus (refine Fgt.mk' 5 (by simp) ?_ ?_ ?_ <;> simp [-List.map_take, -List.map_map, AV.isY, ltL_append, ix_nil, keepB, Am.get, AV.lt, ltL, lt_pts, lt_pt, lt_ixV, ltL_ix, ltL_pt, Blk.lt, ltB]; done)); have Hq := hi; ((have hsq := sm q.1)))
        | (refine CWx.block (id := 2) ?_; refine CWx.loopK (ι := Nat × Nat) [0, 5, 6, 37, 38] (fun i => n - i.1) (fun i => [(39, .int .i64 (i.1 : Int)), (9, .sl 5 i.2 0 (qI S ok i.1).length)]) (fun i => [.row true 0 false 2 [], .row false 0 false 1 (ix zs), .row false 0 false 1 [.sl 1 0 0 n], .row false 0 false 1 (ix S), .row false q.2 false 2 (V.map pt), .row (qI S ok i.1).isEmpty i.2 false 2 ((qI S ok i.1).map pt)]) (fun i => i.1 ≤ n) (fun i => by simp only [keepA, Am.get, List.cons_append, List.nil_append, Nat.reduceEqDiff, ↓reduceIte]; exact rfl) ((0, 0)) ?_ ?_ (fun i hi => ?_); (focus ((try dsimp only) <;> (first | trivial | omega | (refine ⟨?_, ?_⟩ <;> first | omega | trivial | simp_all) | simp_all); done)); (focus (refine Fgt.mk' 6 (by simp) ?_ ?_ ?_ <;> simp [-List.map_take, -List.map_map, AV.isY, ltL_append, ix_nil, keepB, Am.get, AV.lt, ltL, lt_pts, lt_pt, lt_ixV, ltL_ix, ltL_pt, Blk.lt, ltB, qI_zero]; done)); have Hi := hi; ((have hli := lI i.1); (have hsi := sm i.1)))
        | (refine CWx.block (id := 4) ?_; refine CWx.loopK (ι := Nat × Nat) [0, 5, 6, 11, 37, 38, 39, 47, 48] (fun j => n - j.1) (fun j => [(49, .int .i64 (j.1 : Int)), (9, .sl 5 j.2 0 (qJ S ok i.1 (qI S ok i.1) j.1).length)]) (fun j => [.row true 0 false 2 [], .row false 0 false 1 (ix zs), .row false 0 false 1 [.sl 1 0 0 n], .row false 0 false 1 (ix S), .row false q.2 false 2 (V.map pt), .row (qJ S ok i.1 (qI S ok i.1) j.1).isEmpty j.2 false 2 ((qJ S ok i.1 (qI S ok i.1) j.1).map pt)]) (fun j => j.1 ≤ n - (i.1 + 1) ∧ i.1 < n) (fun i => by simp only [keepA, Am.get, List.cons_append, List.nil_append, Nat.reduceEqDiff, ↓reduceIte]; exact rfl) ((0, i.2)) ?_ ?_ (fun j hi => ?_); (focus ((try dsimp only) <;> (first | trivial | omega | (refine ⟨?_, ?_⟩ <;> first | omega | trivial | simp_all) | simp_all); done)); (focus (refine Fgt.mk' 6 (by simp) ?_ ?_ ?_ <;> simp [-List.map_take, -List.map_map, AV.isY, ltL_append, ix_nil, keepB, Am.get, AV.lt, ltL, lt_pts, lt_pt, lt_ixV, ltL_ix, ltL_pt, Blk.lt, ltB, qJ_zero]; done)); have Hj := hi; ((have hlj := lJ i.1 j.1); (have hsj := sm (i.1 + 1 + j.1))))
        | refine CWx.seq ?_
        | refine CWx.block (id := 1) ?_
        | refine CWx.block (id := 3) ?_
        | refine CWx.block (id := 5) ?_
        | refine CWx.skip ?_
        | (refine CWx.exit (id := 0) ?_; (have eq : q.1 = S.length := by omega); simp only [eq, hSt, ← hV, decide_eq_false (show ¬ S.length = 0 by omega)]; simp only [hSl])
        | (refine CWx.exit (id := 4) ?_; (have ej : j.1 = S.length - (i.1 + 1) := by omega); simp only [ej])
        | (refine CWx.exit (id := 2) ?_; (have ei : i.1 = n := by omega); simp only [ei])
        | refine CWx.exit ?_
        | (refine CWx.ret fun al hal => finK_ext hal (finK_pure (.inr rfl) (by simp only [resRV, Am.get, Nat.reduceEqDiff, ↓reduceIte]; exact rfl) ?_ ?_); (focus (first | (rfl; done) | ((simp only [tupAV]; congr <;> omega); done) | (simp [tupAV, *]; done))); (focus (first | rfl | (simp [AV.allR, allRL, allRL_ix]; done))))
        | (intro al hal; refine ⟨(q.1 + 1, q.2 + 1), ?_, ?_, Fgt.ofx hal ?_⟩; (focus (first | omega | (dsimp only; omega))); (focus ((try dsimp only) <;> (first | trivial | omega | (refine ⟨?_, ?_⟩ <;> first | omega | trivial | simp_all) | simp_all); done)); (focus (refine Fgt.mk' 5 (by simp) ?_ ?_ ?_ <;> simp [-List.map_take, -List.map_map, AV.isY, ltL_append, ix_nil, keepB, Am.get, AV.lt, ltL, lt_pts, lt_pt, lt_ixV, ltL_ix, ltL_pt, Blk.lt, ltB, take_succ_map (P l) S q.1 (by omega)]; done)))
        | (intro al hal; refine ⟨(j.1 + 1, j.2 + 1), ?_, ?_, Fgt.ofx hal ?_⟩; (focus (first | omega | (dsimp only; omega))); (focus ((try dsimp only) <;> (first | trivial | omega | (refine ⟨?_, ?_⟩ <;> first | omega | trivial | simp_all) | simp_all); done)); (focus (refine Fgt.mk' 6 (by simp) ?_ ?_ ?_ <;> simp [-List.map_take, -List.map_map, AV.isY, ltL_append, ix_nil, keepB, Am.get, AV.lt, ltL, lt_pts, lt_pt, lt_ixV, ltL_ix, ltL_pt, Blk.lt, ltB, qJ_zero, qJ_t S ok i.1 j.1 (qI S ok i.1) (by assumption)]; done)))
        | (intro al hal; refine ⟨(j.1 + 1, j.2), ?_, ?_, Fgt.ofx hal ?_⟩; (focus (first | omega | (dsimp only; omega))); (focus ((try dsimp only) <;> (first | trivial | omega | (refine ⟨?_, ?_⟩ <;> first | omega | trivial | simp_all) | simp_all); done)); (focus (refine Fgt.mk' 6 (by simp) ?_ ?_ ?_ <;> simp [-List.map_take, -List.map_map, AV.isY, ltL_append, ix_nil, keepB, Am.get, AV.lt, ltL, lt_pts, lt_pt, lt_ixV, ltL_ix, ltL_pt, Blk.lt, ltB, qJ_zero, qJ_f S ok i.1 j.1 (qI S ok i.1) (by simpa using hb)]; done)))
        | (intro al hal; refine ⟨(i.1 + 1, j.2), ?_, ?_, Fgt.ofx hal ?_⟩; (focus (first | omega | (dsimp only; omega))); (focus ((try dsimp only) <;> (first | trivial | omega | (refine ⟨?_, ?_⟩ <;> first | omega | trivial | simp_all) | simp_all); done)); (focus (refine Fgt.mk' 6 (by simp) ?_ ?_ ?_ <;> simp [-List.map_take, -List.map_map, AV.isY, ltL_append, ix_nil, keepB, Am.get, AV.lt, ltL, lt_pts, lt_pt, lt_ixV, ltL_ix, ltL_pt, Blk.lt, ltB, qI_zero, qI_succ]; done)))
        | (refine CWx.ret fun al hal => finK_ext hal (finK_new (b := 5) (.inr rfl) (by simp only [resRV, Am.get, Nat.reduceEqDiff, ↓reduceIte]; exact rfl) rfl (by first | exact allRL_ix _ _ _ | exact allRL_pts _ _ _ | rfl) ?_ ?_) <;> (simp [tupAV, AV.allR, allRL, sigP, AV.mapR, mapRL, sigF]; done))
    · obtain rfl : l = [] := List.eq_nil_of_length_eq_zero (by omega)
      exact xFm_sound hm tOk Aw.ok0 20 _ _ _ _ _ (by kernel_rfl : xFm Aw.nm T Aw.ms0 1000 20 20 [.sv false 2 []] [] = some (.tup [.sl 0 0 0 0, .int .i64 0], [.row true 0 false 2 []]))
  · have hr : antH l = ([], chk l) := by unfold antH; rw [if_pos hc]
    rw [hr]
    refine callsF_cwx hm hf20 (by simp [cf20]) ?_
    simp only [cf20, argsAl]
    repeat' first
      | (refine hK _ _ _ (by first | exact fun h => Bool.noConfusion h | exact fun _ => rfl) ?_; clear hK K)
      | (refine CWx.r fun K hK => ?_; simp (maxSteps := 4000000) (disch := omega) only [dr0, dr1, dr2, dr3, dr4, if_true, if_false, Option.some.injEq, Nat.reduceEqDiff, Int.reduceToNat, Nat.reduceSub, Nat.reduceAdd, Nat.reduceMul, Nat.reduceLT, Nat.reduceLeDiff, reduceCtorEq, ↓reduceIte, catT, enc0, enc1, if_pos, if_neg])
      | refine CWx.go ?_
      | (apply RCx.view (fid := 50) (caps := []) rfl rfl; (focus ((simp only [evsA, evA_t, evA_c, Am.get, Nat.reduceEqDiff, ↓reduceIte, List.nil_append, List.cons_append, List.append_nil]; repeat' first | exact viewArgs_nil | apply viewArgs_cons | exact viewG_flat (flat_pts _ _) _ | exact viewG_flat (flat_ixV _ _) _ | exact viewG_flat (flat_sv _ _) _ | exact viewG_ixT rfl (by assumption) (by omega) | exact viewG_ptsL rfl (by first | omega | (simp; done) | (simp; omega)) | exact viewG_ix rfl (by first | omega | (simp; omega)) | exact viewG_flat rfl _; done))); (focus (refine k50 <;> first | omega | assumption)); (focus rfl); simp (maxSteps := 4000000) (disch := omega) only [dr0, dr1, dr2, dr3, dr4, if_true, if_false, Option.some.injEq, Nat.reduceEqDiff, Int.reduceToNat, Nat.reduceSub, Nat.reduceAdd, Nat.reduceMul, Nat.reduceLT, Nat.reduceLeDiff, reduceCtorEq, ↓reduceIte, catT, enc0, enc1, if_pos, if_neg])
      | (refine gX_split (fun hb => ?_) (fun hb => ?_) <;> (try simp only [hb]) <;> (try simp only [bset0, reduceCtorEq] at hb) <;> simp (maxSteps := 4000000) (disch := omega) only [dr0, dr1, dr2, dr3, dr4, if_true, if_false, Option.some.injEq, Nat.reduceEqDiff, Int.reduceToNat, Nat.reduceSub, Nat.reduceAdd, Nat.reduceMul, Nat.reduceLT, Nat.reduceLeDiff, reduceCtorEq, ↓reduceIte, catT, enc0, enc1, if_pos, if_neg])
      | (refine CWx.br rfl (fun hb => ?_) (fun hb => ?_) <;> first | exact Bool.noConfusion hb | (first | (simp only [bset0, reduceCtorEq] at hb; done) | ((try simp only [bset0, reduceCtorEq] at hb); first | contradiction | skip)))
      | (refine CWx.e fun K hK => ?_; simp (maxSteps := 4000000) (disch := omega) only [dr0, dr1, dr2, dr3, dr4, if_true, if_false, Option.some.injEq, Nat.reduceEqDiff, Int.reduceToNat, Nat.reduceSub, Nat.reduceAdd, Nat.reduceMul, Nat.reduceLT, Nat.reduceLeDiff, reduceCtorEq, ↓reduceIte, catT, enc0, enc1, if_pos, if_neg])
      | refine CWx.seq ?_
      | refine CWx.block (id := 1) ?_
      | refine CWx.block (id := 3) ?_
      | refine CWx.block (id := 5) ?_
      | refine CWx.skip ?_
      | refine CWx.exit ?_
      | (refine CWx.ret fun al hal => finK_ext hal (finK_pure (.inr rfl) (by simp only [resRV, Am.get, Nat.reduceEqDiff, ↓reduceIte]; exact rfl) ?_ ?_); (focus (first | (rfl; done) | ((simp only [tupAV]; congr <;> omega); done) | (simp [tupAV, *]; done))); (focus (first | rfl | (simp [AV.allR, allRL, allRL_ix]; done))))
      | (refine CWx.ret fun al hal => finK_ext hal (finK_new (b := 1) (.inr rfl) (by simp only [resRV, Am.get, Nat.reduceEqDiff, ↓reduceIte]; exact rfl) rfl (by first | exact allRL_ix _ _ _ | exact allRL_pts _ _ _ | rfl) ?_ ?_) <;> (simp [tupAV, AV.allR, allRL, sigP, AV.mapR, mapRL, sigF]; done))
      | (refine CWx.ret fun al hal => finK_ext hal (finK_new (b := 2) (.inr rfl) (by simp only [resRV, Am.get, Nat.reduceEqDiff, ↓reduceIte]; exact rfl) rfl (by first | exact allRL_ix _ _ _ | exact allRL_pts _ _ _ | rfl) ?_ ?_) <;> (simp [tupAV, AV.allR, allRL, sigP, AV.mapR, mapRL, sigF]; done))
      | (refine CWx.ret fun al hal => finK_ext hal (finK_new (b := 3) (.inr rfl) (by simp only [resRV, Am.get, Nat.reduceEqDiff, ↓reduceIte]; exact rfl) rfl (by first | exact allRL_ix _ _ _ | exact allRL_pts _ _ _ | rfl) ?_ ?_) <;> (simp [tupAV, AV.allR, allRL, sigP, AV.mapR, mapRL, sigF]; done))
end Go.Hull
end
section
set_option linter.unusedSimpArgs false
set_option linter.unusedVariables false
set_option maxHeartbeats 4000000
namespace Go.Hull
open Go Go.Am Go.Proofs

-- the highest point
theorem topN_spec {l : List Pt} (hl : 0 < l.length) (d : Pt) : ∀ n, n ≤ l.length → (∀ k, k < n → dot (P l k) d ≤ topN l d n) ∧ ∃ k, k < l.length ∧ topN l d n = dot (P l k) d := by
  intro n
  induction n with
  | zero => intro _; exact ⟨fun k hk => by omega, 0, hl, rfl⟩
  | succ n ih =>
    intro h
    obtain ⟨h1, k, hk, h2⟩ := ih (by omega)
    have e : topN l d (n + 1) = if topN l d n < dot (P l n) d then dot (P l n) d else topN l d n := by
      simp only [topN, maxI, gt_iff_lt]
    rw [e]
    by_cases hlt : topN l d n < dot (P l n) d
    · rw [if_pos hlt]
      exact ⟨fun j hj => by
        by_cases e : j = n
        · rw [e]; exact Int.le_refl _
        · have := h1 j (by omega); omega, n, by omega, rfl⟩
    · rw [if_neg hlt]
      exact ⟨fun j hj => by
        by_cases e : j = n
        · rw [e]; omega
        · exact h1 j (by omega), k, hk, h2⟩
theorem top_iff {l : List Pt} (hl : 0 < l.length) (d : Pt) {p : Pt} (hp : p ∈ l) : topN l d l.length = dot p d ↔ ∀ q ∈ l, dot q d ≤ dot p d := by
  obtain ⟨h1, k, hk, h2⟩ := topN_spec hl d l.length (Nat.le_refl _)
  obtain ⟨i, hi, rfl⟩ := mem_P hp
  constructor
  · intro h q hq
    obtain ⟨j, hj, rfl⟩ := mem_P hq
    have := h1 j hj
    omega
  · intro h
    have := h _ (P_mem hk)
    have := h1 i hi
    omega
theorem tpI_iff {l : List Pt} (hl : 0 < l.length) (d : Pt) {i : Nat} (hi : i < l.length) : i ∈ tpI l d l.length ↔ ∀ q ∈ l, dot q d ≤ dot (P l i) d := by
  rw [← top_iff hl d (P_mem hi)]
  simp only [tpI, List.mem_filter, List.mem_range, decide_eq_true_eq]
  exact ⟨fun h => h.2.symm, fun h => ⟨hi, h.symm⟩⟩
/-- a is highest and b lowest. -/
def Opp (l : List Pt) (a b d : Pt) : Prop := (∀ q ∈ l, dot q d ≤ dot a d) ∧ ∀ q ∈ l, dot b d ≤ dot q d
theorem dot_neg (p d : Pt) : dot p (neg d) = - dot p d := by simp only [dot, neg]; grind
/-- The points of the hull are as high as all. -/
theorem hull_top {l : List Pt} (hl : 0 < l.length) (d : Pt) (m : Int) (h : ∀ q, isV l (hullI l) q → dot q d ≤ m) : ∀ q ∈ l, dot q d ≤ m := by
  intro q hq
  have V := hullV l hl
  have hin : InP (isV l (hullI l)) q := in_of_inH V ((in_iff V q).1 (.inl hq))
  have := hin.aff (A := -d.1) (B := -d.2) (C := m) fun q hq => by
    have := h q hq
    simp only [dot, aff] at this ⊢
    rw [Int.neg_mul, Int.neg_mul, Int.mul_comm d.1, Int.mul_comm d.2]
    omega
  simp only [dot, aff] at this ⊢
  rw [Int.neg_mul, Int.neg_mul, Int.mul_comm d.1, Int.mul_comm d.2] at this
  omega
-- turning a direction up to a side
theorem turn_tri (w w1 w' d : Pt) : turn w w' * dot w1 d = turn w w1 * dot w' d + turn w1 w' * dot w d := by
  simp only [turn, dot]; grind
theorem first_turn (d : Pt) : ∀ (W : List Pt), W ≠ [] → (∀ w ∈ W, dot w d < 0) → ∃ w0 ∈ W, ∀ w ∈ W, 0 ≤ turn w0 w := by
  intro W
  induction W with
  | nil => intro h; exact absurd rfl h
  | cons w L ih =>
    intro _ hd
    by_cases hL : L = []
    · subst hL
      exact ⟨w, by simp, fun x hx => by
        rw [List.mem_singleton.1 hx]
        simp only [turn]
        rw [Int.mul_comm]; omega⟩
    · obtain ⟨w1, h1, h2⟩ := ih hL fun x hx => hd x (List.mem_cons_of_mem _ hx)
      by_cases ht : 0 ≤ turn w1 w
      · exact ⟨w1, List.mem_cons_of_mem _ h1, fun x hx => by
          rcases List.mem_cons.1 hx with rfl | hx
          · exact ht
          · exact h2 x hx⟩
      · have ht' : 0 ≤ turn w w1 := by
          have : turn w w1 = - turn w1 w := by simp only [turn]; grind
          omega
        refine ⟨w, by simp, fun x hx => ?_⟩
        rcases List.mem_cons.1 hx with rfl | hx
        · simp only [turn]; rw [Int.mul_comm]; omega
        · have e := turn_tri w w1 x d
          have a1 := hd w1 (List.mem_cons_of_mem _ h1)
          have a2 := hd x (List.mem_cons_of_mem _ hx)
          have a3 := hd w (by simp)
          have b1 : turn w w1 * dot x d ≤ 0 := Int.mul_nonpos_of_nonneg_of_nonpos ht' (by omega)
          have b2 : turn w1 x * dot w d ≤ 0 := Int.mul_nonpos_of_nonneg_of_nonpos (h2 x hx) (by omega)
          by_cases hn : 0 ≤ turn w x
          · exact hn
          · have : 0 < turn w x * dot w1 d := Int.mul_pos_of_neg_of_neg (by omega) a1
            omega
/-- A direction in a cone may be turned up to its edge. -/
theorem turn_up {W : List Pt} (hW : W ≠ []) (nz : ∀ w ∈ W, w ≠ (0, 0)) {d : Pt} (hd : d ≠ (0, 0)) (h : ∀ w ∈ W, dot w d ≤ 0) : ∃ w ∈ W, ∃ e, (e = (w.2, -w.1) ∨ e = (-w.2, w.1)) ∧ ∀ w' ∈ W, dot w' e ≤ 0 := by
  by_cases hz : ∃ w ∈ W, dot w d = 0
  · obtain ⟨w, hw, h0⟩ := hz
    have key : ∀ e : Pt, (e = (w.2, -w.1) ∨ e = (-w.2, w.1)) → 0 < dot d e → ∀ w' ∈ W, dot w' e ≤ 0 := fun e he hp w' hw' => by
      have hdd := dot_self_pos hd
      have hde : turn d e = 0 := by
        simp only [dot] at h0
        rcases he with rfl | rfl <;> simp only [turn] <;> grind
      have id : dot w' e * dot d d = dot w' d * dot d e + turn d w' * turn d e := by simp only [dot, turn]; grind
      rw [hde, Int.mul_zero, Int.add_zero] at id
      have a1 : dot w' d * dot d e ≤ 0 := Int.mul_nonpos_of_nonpos_of_nonneg (h w' hw') (by omega)
      by_cases hn : dot w' e ≤ 0
      · exact hn
      · have : 0 < dot w' e * dot d d := Int.mul_pos (by omega) hdd
        omega
    have hne : dot d (w.2, -w.1) ≠ 0 := fun h1 => by
      have l1 := lagr d w w
      have e1 : dot d w = 0 := by rw [← h0]; simp only [dot]; grind
      have e2 : turn d w = 0 := by
        have : turn d w = dot d (w.2, -w.1) := by simp only [dot, turn]; grind
        rw [this, h1]
      rw [e1, e2] at l1
      have := Int.mul_pos (dot_self_pos hd) (dot_self_pos (nz w hw))
      omega
    by_cases hp : 0 < dot d (w.2, -w.1)
    · exact ⟨w, hw, _, .inl rfl, key _ (.inl rfl) hp⟩
    · refine ⟨w, hw, _, .inr rfl, key _ (.inr rfl) ?_⟩
      have : dot d (-w.2, w.1) = - dot d (w.2, -w.1) := by simp only [dot]; grind
      omega
  · obtain ⟨w0, hw0, ht⟩ := first_turn d W hW fun w hw => by
      have := h w hw
      rcases Int.lt_or_eq_of_le this with h1 | h1
      · exact h1
      · exact absurd ⟨w, hw, h1⟩ hz
    refine ⟨w0, hw0, _, .inl rfl, fun w hw => ?_⟩
    have := ht w hw
    have e : dot w (w0.2, -w0.1) = - turn w0 w := by simp only [dot, turn]; grind
    omega
theorem opp_turn {V : List Pt} {a b d : Pt} (ha : a ∈ V) (hb : b ∈ V) (hab : a ≠ b) (hd : d ≠ (0, 0)) (h : Opp V a b d) : ∃ e, (e = a ∨ e = b) ∧ ∃ p ∈ V, p ≠ e ∧ ∃ d', (d' = (-(sub p e).2, (sub p e).1) ∨ d' = ((sub p e).2, -(sub p e).1)) ∧ Opp V a b d' := by
  obtain ⟨W, hW⟩ : ∃ W, W = ((V.filter fun p => decide (p ≠ a)).map fun p => sub p a) ++ ((V.filter fun p => decide (p ≠ b)).map fun p => sub b p) := ⟨_, rfl⟩
  have sz : ∀ p q : Pt, p ≠ q → sub p q ≠ (0, 0) := fun p q hne h => hne (by
    simp only [sub, Prod.mk.injEq] at h
    exact Prod.ext (by omega) (by omega))
  have mW : ∀ w, w ∈ W ↔ (∃ p ∈ V, p ≠ a ∧ sub p a = w) ∨ ∃ p ∈ V, p ≠ b ∧ sub b p = w := fun w => by
    rw [hW]; simp only [List.mem_append, List.mem_map, List.mem_filter, decide_eq_true_eq, and_assoc]
  have cone : ∀ d, (∀ w ∈ W, dot w d ≤ 0) ↔ Opp V a b d := fun d => by
    constructor
    · intro h
      refine ⟨fun q hq => ?_, fun q hq => ?_⟩
      · by_cases e : q = a
        · rw [e]; exact Int.le_refl _
        · have := h _ ((mW _).2 (.inl ⟨q, hq, e, rfl⟩))
          have e : dot (sub q a) d = dot q d - dot a d := by simp only [dot, sub]; grind
          omega
      · by_cases e : q = b
        · rw [e]; exact Int.le_refl _
        · have := h _ ((mW _).2 (.inr ⟨q, hq, e, rfl⟩))
          have e : dot (sub b q) d = dot b d - dot q d := by simp only [dot, sub]; grind
          omega
    · intro ⟨h1, h2⟩ w hw
      rcases (mW w).1 hw with ⟨p, hp, hne, rfl⟩ | ⟨p, hp, hne, rfl⟩
      · have := h1 p hp
        have e : dot (sub p a) d = dot p d - dot a d := by simp only [dot, sub]; grind
        omega
      · have := h2 p hp
        have e : dot (sub b p) d = dot b d - dot p d := by simp only [dot, sub]; grind
        omega
  have ne : W ≠ [] := fun e => by
    have := (mW (sub b a)).2 (.inl ⟨b, hb, fun h => hab h.symm, rfl⟩)
    rw [e] at this; cases this
  obtain ⟨w, hw, e, he, hc⟩ := turn_up ne (fun w hw => by
    rcases (mW w).1 hw with ⟨p, hp, hne, rfl⟩ | ⟨p, hp, hne, rfl⟩
    · exact sz _ _ hne
    · exact sz _ _ fun h => hne h.symm) hd ((cone d).2 h)
  rcases (mW w).1 hw with ⟨p, hp, hne, rfl⟩ | ⟨p, hp, hne, rfl⟩
  · exact ⟨a, .inl rfl, p, hp, hne, e, he.symm, (cone e).1 hc⟩
  · refine ⟨b, .inr rfl, p, hp, hne, e, ?_, (cone e).1 hc⟩
    have e1 : sub b p = (-(sub p b).1, -(sub p b).2) := by simp only [sub]; exact Prod.ext (by simp only; omega) (by simp only; omega)
    rw [e1] at he
    simp only [Int.neg_neg] at he
    rcases he with h | h
    · exact .inl h
    · exact .inr h
end Go.Hull
end
section
set_option linter.unusedSimpArgs false
set_option linter.unusedVariables false
set_option maxHeartbeats 4000000
namespace Go.Hull
open Go Go.Am Go.Proofs

theorem insR_perm (lt : Nat → Nat → Bool) (x : Nat) : ∀ (r : List Nat), (insR lt x r).Perm (x :: r) := by
  intro r
  induction r with
  | nil => exact .refl _
  | cons y r ih =>
    simp only [insR]
    split
    · exact (ih.cons y).trans (.swap x y r)
    · exact .refl _
theorem fold_perm (lt : Nat → Nat → Bool) : ∀ (rest r : List Nat), (rest.foldl (fun r x => insR lt x r) r).Perm (rest ++ r) := by
  intro rest
  induction rest with
  | nil => intro r; exact .refl _
  | cons x rest ih =>
    intro r
    rw [List.foldl_cons]
    refine (ih _).trans ?_
    refine ((insR_perm lt x r).append_left rest).trans ?_
    rw [List.cons_append]
    exact List.perm_middle
theorem insort_perm (lt : Nat → Nat → Bool) (xs : List Nat) : (insort lt xs).Perm xs := by
  cases xs with
  | nil => exact .refl _
  | cons a rest =>
    rw [insort_eq]
    refine (List.reverse_perm _).trans ((fold_perm lt rest [a]).trans ?_)
    exact (List.perm_append_comm).trans (.refl _)
/-- The vertices in the order of their numbers. -/
theorem vS_eq (l : List Pt) : vS l = (List.range l.length).filter (vertexB l) := by
  have p1 : (vS l).Perm (hullI l) := insort_perm _ _
  refine List.Perm.eq_of_pairwise (le := fun a b => a ≤ b) (fun a b _ _ h1 h2 => Nat.le_antisymm h1 h2) ?_ ?_ ?_
  · exact (insort_sorted ltN (fun a b h => by simp only [ltN, decide_eq_true_eq, decide_eq_false_iff_not] at *; omega) (fun a b c h1 h2 => by simp only [ltN, decide_eq_false_iff_not] at *; omega) (hullI l)).imp fun {a b} h => by
      simp only [ltN, decide_eq_false_iff_not] at h; omega
  · exact (List.pairwise_lt_range.imp fun {a b} h => Nat.le_of_lt h).filter _
  · refine (List.perm_ext_iff_of_nodup ((hull_nodup l).perm p1.symm) (List.nodup_range.filter _)).2 fun x => ?_
    rw [p1.mem_iff, List.mem_filter, List.mem_range]
    constructor
    · intro h; exact ⟨hull_mem x h, (vertexB_iff (hull_mem x h)).2 h⟩
    · intro h; exact (vertexB_iff h.1).1 h.2
/-- All pairs of a list that are told. -/
def prs (ok : Nat → Nat → Bool) : List Nat → List Pt
  | [] => []
  | a :: t => ((t.filter (ok a)).map fun b : Nat => ((a : Int), (b : Int))) ++ prs ok t
theorem qJ_eq (S : List Nat) (ok : Nat → Nat → Bool) (i : Nat) (s : List Pt) : ∀ m, i + 1 + m ≤ S.length → qJ S ok i s m = s ++ (((S.drop (i + 1)).take m).filter (ok (S.getD i 0))).map fun b : Nat => (((S.getD i 0 : Nat) : Int), (b : Int)) := by
  intro m
  induction m with
  | zero => intro _; simp [qJ]
  | succ m ih =>
    intro h
    have e : (S.drop (i + 1)).take (m + 1) = (S.drop (i + 1)).take m ++ [S.getD (i + 1 + m) 0] := by
      rw [take_succN (S.drop (i + 1)) (by rw [List.length_drop]; omega)]
      congr 2
      rw [List.getD_eq_getElem?_getD, List.getD_eq_getElem?_getD, List.getElem?_drop]
    rw [qJ, ih (by omega), e, List.filter_append, List.map_append, List.append_assoc]
    congr 2
    by_cases hk : ok (S.getD i 0) (S.getD (i + 1 + m) 0) = true
    · rw [if_pos hk, List.filter_cons_of_pos hk]; rfl
    · rw [if_neg hk, List.filter_cons_of_neg hk]; rfl
theorem drop_consN (S : List Nat) (i : Nat) (h : i < S.length) : S.drop i = S.getD i 0 :: S.drop (i + 1) := by
  rw [List.drop_eq_getElem_cons h, List.getD_eq_getElem?_getD, List.getElem?_eq_getElem h]; rfl
theorem qI_eq (S : List Nat) (ok : Nat → Nat → Bool) : ∀ i, i ≤ S.length → qI S ok i ++ prs ok (S.drop i) = prs ok S := by
  intro i
  induction i with
  | zero => intro _; simp [qI]
  | succ i ih =>
    intro h
    rw [← ih (by omega), drop_consN S i (by omega), prs, qI, qJ_eq S ok i _ _ (by omega), List.append_assoc, List.take_of_length_le (by rw [List.length_drop]; omega)]
theorem qI_prs (S : List Nat) (ok : Nat → Nat → Bool) : qI S ok S.length = prs ok S := by
  have := qI_eq S ok S.length (Nat.le_refl _)
  rwa [List.drop_length, prs, List.append_nil] at this
theorem range_getD {n i : Nat} (h : i < n) : (List.range n).getD i 0 = i := by
  rw [List.getD_eq_getElem?_getD, List.getElem?_eq_getElem (by simpa using h)]; simp
theorem prJ_q (ok : Nat → Nat → Bool) (n i : Nat) (s : List Pt) : ∀ m, i + 1 + m ≤ n → prJ ok i s m = qJ (List.range n) ok i s m := by
  intro m
  induction m with
  | zero => intro _; rfl
  | succ m ih => intro h; rw [prJ, qJ, ih (by omega), range_getD (show i < n by omega), range_getD (show i + 1 + m < n by omega)]
theorem prI_q (ok : Nat → Nat → Bool) (n : Nat) : ∀ i, i ≤ n → prI ok n i = qI (List.range n) ok i := by
  intro i
  induction i with
  | zero => intro _; rfl
  | succ i ih => intro h; rw [prI, qI, ih (by omega), List.length_range, prJ_q ok n i _ _ (by omega)]
theorem prI_prs (ok : Nat → Nat → Bool) (n : Nat) : prI ok n n = prs ok (List.range n) := by
  have := qI_prs (List.range n) ok
  rw [List.length_range] at this
  rw [prI_q ok n n (Nat.le_refl _), this]
theorem prs_filter (vb : Nat → Bool) (ok : Nat → Nat → Bool) : ∀ (L : List Nat), prs (fun a b => vb a && (vb b && ok a b)) L = prs ok (L.filter vb) := by
  intro L
  induction L with
  | nil => rfl
  | cons a t ih =>
    rw [prs, ih]
    cases h : vb a with
    | true =>
      rw [List.filter_cons_of_pos h, prs, List.filter_filter]
      congr 2
      apply List.filter_congr
      intro x _
      simp [Bool.and_comm]
    | false =>
      rw [List.filter_cons_of_neg (by rw [h]; decide)]
      have : t.filter (fun b => false && (vb b && ok a b)) = [] := by
        rw [List.filter_eq_nil_iff]; intro x _; simp
      rw [this]; rfl
theorem prs_congr {ok ok' : Nat → Nat → Bool} : ∀ {L : List Nat}, L.Pairwise (fun a b => ok a b = ok' a b) → prs ok L = prs ok' L := by
  intro L
  induction L with
  | nil => intro _; rfl
  | cons a t ih =>
    intro h
    obtain ⟨h1, h2⟩ := List.pairwise_cons.1 h
    rw [prs, prs, ih h2]
    congr 2
    exact List.filter_congr h1
theorem nrm_neg (p q : Pt) : P (nrm p q) 1 = neg (P (nrm p q) 0) := by
  show ((sub q p).2, -(sub q p).1) = neg (-(sub q p).2, (sub q p).1)
  simp only [neg, Int.neg_neg]
theorem fcB_iff {l : List Pt} (hl : 0 < l.length) {i j x y : Nat} (hi : i < l.length) (hj : j < l.length) : fcB l i j x y = true ↔ P l x ≠ P l y ∧ (Opp l (P l i) (P l j) (P (nrm (P l x) (P l y)) 0) ∨ Opp l (P l i) (P l j) (P (nrm (P l x) (P l y)) 1)) := by
  have swp : ∀ p d : Pt, (∀ q ∈ l, dot q (neg d) ≤ dot p (neg d)) ↔ ∀ q ∈ l, dot p d ≤ dot q d := fun p d => by
    constructor <;> intro h q hq <;> have := h q hq <;> simp only [dot_neg] at * <;> omega
  have swp' : ∀ p d : Pt, (∀ q ∈ l, dot p (neg d) ≤ dot q (neg d)) ↔ ∀ q ∈ l, dot q d ≤ dot p d := fun p d => by
    constructor <;> intro h q hq <;> have := h q hq <;> simp only [dot_neg] at * <;> omega
  simp only [fcB, decide_eq_true_eq, tpI_iff hl _ hi, tpI_iff hl _ hj, nrm_neg, Opp, swp, swp']
theorem facB_iff {l : List Pt} (hl : 0 < l.length) {i j : Nat} (hi : i < l.length) (hj : j < l.length) : facB l i j = true ↔ ∃ p ∈ l, ∃ q ∈ l, p ≠ q ∧ ∃ d, (d = (-(sub q p).2, (sub q p).1) ∨ d = ((sub q p).2, -(sub q p).1)) ∧ Opp l (P l i) (P l j) d := by
  simp only [facB, decide_eq_true_eq]
  constructor
  · rintro ⟨x, hx, y, hy, h⟩
    obtain ⟨h1, h2⟩ := (fcB_iff hl hi hj).1 h
    refine ⟨P l x, P_mem hx, P l y, P_mem (by omega), h1, ?_⟩
    rcases h2 with h2 | h2
    · exact ⟨_, .inl rfl, h2⟩
    · exact ⟨_, .inr rfl, h2⟩
  · rintro ⟨p, hp, q, hq, hne, d, hd, h⟩
    obtain ⟨x, hx, rfl⟩ := mem_P hp
    obtain ⟨y, hy, rfl⟩ := mem_P hq
    by_cases hxy : y < x
    · refine ⟨x, hx, y, hxy, (fcB_iff hl hi hj).2 ⟨hne, ?_⟩⟩
      rcases hd with rfl | rfl
      · exact .inl h
      · exact .inr h
    · have hlt : x < y := by
        rcases Nat.lt_or_eq_of_le (Nat.not_lt.1 hxy) with h | h
        · exact h
        · subst h; exact absurd rfl hne
      refine ⟨y, hy, x, hlt, (fcB_iff hl hi hj).2 ⟨fun e => hne e.symm, ?_⟩⟩
      have e0 : P (nrm (P l y) (P l x)) 0 = ((sub (P l y) (P l x)).2, -(sub (P l y) (P l x)).1) := by
        show (-(sub (P l x) (P l y)).2, (sub (P l x) (P l y)).1) = _
        simp only [sub]; exact Prod.ext (by simp only; omega) (by simp only; omega)
      have e1 : P (nrm (P l y) (P l x)) 1 = (-(sub (P l y) (P l x)).2, (sub (P l y) (P l x)).1) := by
        show ((sub (P l x) (P l y)).2, -(sub (P l x) (P l y)).1) = _
        simp only [sub]; exact Prod.ext (by simp only; omega) (by simp only; omega)
      rw [e0, e1]
      rcases hd with rfl | rfl
      · exact .inr h
      · exact .inl h
theorem oppB_Opp {v : List Pt} (hv : 0 < v.length) {a b : Pt} (ha : a ∈ v) (hb : b ∈ v) : oppB v a b = true ↔ ∃ e, (e = a ∨ e = b) ∧ ∃ p ∈ v, p ≠ e ∧ ∃ d, (d = (-(sub p e).2, (sub p e).1) ∨ d = ((sub p e).2, -(sub p e).1)) ∧ Opp v a b d := by
  have core : ∀ d, (topN v d v.length = dot a d ∧ topN v (neg d) v.length = - dot b d) ↔ Opp v a b d := fun d => by
    rw [← dot_neg, top_iff hv _ ha, top_iff hv _ hb]
    refine and_congr Iff.rfl ?_
    constructor <;> intro h q hq <;> have := h q hq <;> simp only [dot_neg] at * <;> omega
  rw [oppB_iff]
  simp only [opC, decide_eq_true_eq, core]
  constructor
  · rintro ⟨e, he, x, hx, k, hk, h1, h2⟩
    refine ⟨P [a, b] e, ?_, P v x, P_mem hx, h1, P (nrm (P [a, b] e) (P v x)) k, ?_, h2⟩
    · have : e = 0 ∨ e = 1 := by omega
      rcases this with rfl | rfl
      · exact .inl rfl
      · exact .inr rfl
    · have : k = 0 ∨ k = 1 := by omega
      rcases this with rfl | rfl
      · exact .inl rfl
      · exact .inr rfl
  · rintro ⟨e, he, p, hp, hne, d, hd, h⟩
    obtain ⟨x, hx, rfl⟩ := mem_P hp
    have fin : ∀ n, n < 2 → e = P [a, b] n → ∃ e, e < 2 ∧ ∃ x, x < v.length ∧ ∃ k, k < 2 ∧ P v x ≠ P [a, b] e ∧ Opp v a b (P (nrm (P [a, b] e) (P v x)) k) := fun n hn en => by
      subst en
      rcases hd with rfl | rfl
      · exact ⟨n, hn, x, hx, 0, by omega, hne, h⟩
      · exact ⟨n, hn, x, hx, 1, by omega, hne, h⟩
    rcases he with rfl | rfl
    · exact fin 0 (by omega) rfl
    · exact fin 1 (by omega) rfl
theorem opL_fac {l : List Pt} {i j : Nat} (hi : i ∈ hullI l) (hj : j ∈ hullI l) (hij : i ≠ j) : opL l i j = facB l i j := by
  have hil := hull_mem i hi
  have hjl := hull_mem j hj
  have hl : 0 < l.length := by omega
  have V := hullV l hl
  have mV : ∀ q, q ∈ (vS l).map (P l) ↔ isV l (hullI l) q := fun q => by
    rw [List.mem_map]
    constructor
    · rintro ⟨x, hx, rfl⟩
      obtain ⟨m, hm, e⟩ := mem_getD ((insort_mem (lt := ltN) _ _).1 hx)
      exact ⟨m, hm, by rw [vx_lt hm, e]⟩
    · rintro ⟨m, hm, rfl⟩
      exact ⟨(hullI l).getD m 0, (insort_mem (lt := ltN) _ _).2 (getD_mem hm), (vx_lt hm).symm⟩
  have ha : P l i ∈ (vS l).map (P l) := List.mem_map.2 ⟨i, (insort_mem (lt := ltN) _ _).2 hi, rfl⟩
  have hb : P l j ∈ (vS l).map (P l) := List.mem_map.2 ⟨j, (insort_mem (lt := ltN) _ _).2 hj, rfl⟩
  have hv : 0 < ((vS l).map (P l)).length := List.length_pos_of_mem ha
  have hab : P l i ≠ P l j := fun e => hij (by
    obtain ⟨m, hm, e1⟩ := mem_getD hi
    obtain ⟨k, hk, e2⟩ := mem_getD hj
    have := V.inj hm hk (by rw [e1, e2, e])
    rw [← e1, ← e2, this])
  have up : ∀ d, Opp ((vS l).map (P l)) (P l i) (P l j) d ↔ Opp l (P l i) (P l j) d := fun d => by
    constructor
    · rintro ⟨h1, h2⟩
      refine ⟨hull_top hl d _ fun q hq => h1 q ((mV q).2 hq), fun q hq => ?_⟩
      have := hull_top hl (neg d) (dot (P l j) (neg d)) (fun q hq => by have := h2 q ((mV q).2 hq); simp only [dot_neg]; omega) q hq
      simp only [dot_neg] at this; omega
    · rintro ⟨h1, h2⟩
      exact ⟨fun q hq => h1 q (isV_mem V ((mV q).1 hq)), fun q hq => h2 q (isV_mem V ((mV q).1 hq))⟩
  rw [Bool.eq_iff_iff, facB_iff hl hil hjl]
  unfold opL
  rw [oppB_Opp hv ha hb]
  constructor
  · rintro ⟨e, he, p, hp, hne, d, hd, h⟩
    refine ⟨e, ?_, p, isV_mem V ((mV p).1 hp), fun h => hne h.symm, d, hd, (up d).1 h⟩
    rcases he with rfl | rfl
    · exact P_mem hil
    · exact P_mem hjl
  · rintro ⟨p, hp, q, hq, hne, d, hd, h⟩
    have hd0 : d ≠ (0, 0) := fun e => hne (by
      rcases hd with rfl | rfl <;> simp only [sub, Prod.mk.injEq] at e <;> exact Prod.ext (by omega) (by omega))
    exact opp_turn ha hb hab hd0 ((up d).2 h)
theorem antH_eq (l : List Pt) : antH l = antR l := by
  unfold antH antR
  split
  · rfl
  · congr 1
    rw [qI_prs, prI_prs, show okB l = fun a b => vertexB l a && (vertexB l b && facB l a b) from rfl, prs_filter, ← vS_eq]
    refine prs_congr ?_
    have hs : (vS l).Pairwise (fun a b => a < b) := by rw [vS_eq]; exact List.pairwise_lt_range.filter _
    have hmem : ∀ x ∈ vS l, x ∈ hullI l := fun x hx => (insort_mem (lt := ltN) _ _).1 hx
    exact (hs.imp_of_mem fun {a b} ha hb h => opL_fac (hmem a ha) (hmem b hb) (by omega))
end Go.Hull
end
section
set_option linter.unusedSimpArgs false
set_option linter.unusedVariables false
set_option maxHeartbeats 8000000
set_option maxRecDepth 100000
namespace Go.Hull
open Go Go.Am Go.Proofs

def d2 (p q : Pt) : Int := dot (sub p q) (sub p q)
def upd2 (s : Int × Pt) (n : Int) (i j : Nat) : Int × Pt := if s.1 < n then (n, ((i : Int), (j : Int))) else s
/-- The best pair so far: with the point i and the m that follow. -/
def farJ (l : List Pt) (i : Nat) (s : Int × Pt) : Nat → Int × Pt
  | 0 => s
  | m + 1 => upd2 (farJ l i s m) (d2 (P l i) (P l (i + 1 + m))) i (i + 1 + m)
def farI (l : List Pt) : Nat → Int × Pt
  | 0 => (-1, (0, 0))
  | i + 1 => farJ l i (farI l i) (l.length - (i + 1))
/-- The same, told by the number of the second point. -/
def farK (l : List Pt) (i j : Nat) : Int × Pt := farJ l i (farI l i) (j - (i + 1))
theorem farI_zero (l : List Pt) : farI l 0 = (-1, (0, 0)) := rfl
theorem farK_zero (l : List Pt) (i : Nat) : farK l i (i + 1) = farI l i := by unfold farK; rw [Nat.sub_self]; rfl
theorem farK_succ (l : List Pt) (i j : Nat) (h : i + 1 ≤ j) : farK l i (j + 1) = upd2 (farK l i j) (d2 (P l i) (P l j)) i j := by
  unfold farK
  rw [show j + 1 - (i + 1) = (j - (i + 1)) + 1 by omega, farJ, show i + 1 + (j - (i + 1)) = j by omega]
theorem farK_t (l : List Pt) (i j : Nat) (h : i + 1 ≤ j) (h1 : (farK l i j).1 < d2 (P l i) (P l j)) : farK l i (j + 1) = (d2 (P l i) (P l j), ((i : Int), (j : Int))) := by rw [farK_succ l i j h, upd2, if_pos h1]
theorem farK_f (l : List Pt) (i j : Nat) (h : i + 1 ≤ j) (h1 : ¬ (farK l i j).1 < d2 (P l i) (P l j)) : farK l i (j + 1) = farK l i j := by rw [farK_succ l i j h, upd2, if_neg h1]
theorem farI_succ (l : List Pt) (i : Nat) : farI l (i + 1) = farK l i l.length := rfl
def farR (l : List Pt) : Int × Pt × Int := if chk l ≠ 0 then (0, (0, 0), chk l) else if l.length < 2 then (0, (0, 0), 13) else ((farI l l.length).1, (farI l l.length).2, 0)
def farV (r : Int × Pt × Int) : AV := .tup [.int .i64 r.1, pt r.2.1, .int .i64 r.2.2]
theorem c42 {p q : Pt} (hp : okP p = true) (hq : okP q = true) : CallsF Try.prog 42 [pt p, pt q] [] (.int .i64 (d2 p q)) [] := by
  refine callsF_cwx hm hf42 (by simp [cf42]) ?_
  simp only [cf42, argsAl]
  repeat' first
    | (refine hK _ _ _ (by first | exact fun h => Bool.noConfusion h | exact fun _ => rfl) ?_; clear hK K)
    | (refine CWx.r fun K hK => ?_; simp (maxSteps := 4000000) (disch := omega) only [dr0, dr1, dr2, dr3, dr4, if_true, if_false, Option.some.injEq, Nat.reduceEqDiff, Int.reduceToNat, Nat.reduceSub, Nat.reduceAdd, Nat.reduceMul, Nat.reduceLT, Nat.reduceLeDiff, reduceCtorEq, ↓reduceIte, catT, enc0, enc1, if_pos, if_neg])
    | refine CWx.go ?_
    | (apply RCx.view (fid := 75) (caps := []) rfl rfl; (focus ((simp only [evsA, evA_t, evA_c, Am.get, Nat.reduceEqDiff, ↓reduceIte, List.nil_append, List.cons_append, List.append_nil]; repeat' first | exact viewArgs_nil | apply viewArgs_cons | exact viewG_flat (flat_pts _ _) _ | exact viewG_flat (flat_ixV _ _) _ | exact viewG_flat (flat_sv _ _) _ | exact viewG_ixT rfl (by assumption) (by omega) | exact viewG_ptsL rfl (by first | omega | (simp; done) | (simp; omega)) | exact viewG_ix rfl (by first | omega | (simp; omega)) | exact viewG_flat rfl _; done))); (focus (refine c75 hp hq <;> first | omega | assumption)); (focus rfl); simp (maxSteps := 4000000) (disch := omega) only [dr0, dr1, dr2, dr3, dr4, if_true, if_false, Option.some.injEq, Nat.reduceEqDiff, Int.reduceToNat, Nat.reduceSub, Nat.reduceAdd, Nat.reduceMul, Nat.reduceLT, Nat.reduceLeDiff, reduceCtorEq, ↓reduceIte, catT, enc0, enc1, if_pos, if_neg])
    | (apply RCx.view (fid := 26) (caps := []) rfl rfl; (focus ((simp only [evsA, evA_t, evA_c, Am.get, Nat.reduceEqDiff, ↓reduceIte, List.nil_append, List.cons_append, List.append_nil]; repeat' first | exact viewArgs_nil | apply viewArgs_cons | exact viewG_flat (flat_pts _ _) _ | exact viewG_flat (flat_ixV _ _) _ | exact viewG_flat (flat_sv _ _) _ | exact viewG_ixT rfl (by assumption) (by omega) | exact viewG_ptsL rfl (by first | omega | (simp; done) | (simp; omega)) | exact viewG_ix rfl (by first | omega | (simp; omega)) | exact viewG_flat rfl _; done))); (focus (refine c26 (sub_small hp hq) (sub_small hp hq) <;> first | omega | assumption)); (focus rfl); simp (maxSteps := 4000000) (disch := omega) only [dr0, dr1, dr2, dr3, dr4, if_true, if_false, Option.some.injEq, Nat.reduceEqDiff, Int.reduceToNat, Nat.reduceSub, Nat.reduceAdd, Nat.reduceMul, Nat.reduceLT, Nat.reduceLeDiff, reduceCtorEq, ↓reduceIte, catT, enc0, enc1, if_pos, if_neg])
    | (refine gX_split (fun hb => ?_) (fun hb => ?_) <;> (try simp only [hb]) <;> (try simp only [bset0, reduceCtorEq] at hb) <;> simp (maxSteps := 4000000) (disch := omega) only [dr0, dr1, dr2, dr3, dr4, if_true, if_false, Option.some.injEq, Nat.reduceEqDiff, Int.reduceToNat, Nat.reduceSub, Nat.reduceAdd, Nat.reduceMul, Nat.reduceLT, Nat.reduceLeDiff, reduceCtorEq, ↓reduceIte, catT, enc0, enc1, if_pos, if_neg])
    | (refine CWx.br rfl (fun hb => ?_) (fun hb => ?_) <;> first | exact Bool.noConfusion hb | (first | (simp only [bset0, reduceCtorEq] at hb; done) | ((try simp only [bset0, reduceCtorEq] at hb); first | contradiction | skip)))
    | (refine CWx.e fun K hK => ?_; simp (maxSteps := 4000000) (disch := omega) only [dr0, dr1, dr2, dr3, dr4, if_true, if_false, Option.some.injEq, Nat.reduceEqDiff, Int.reduceToNat, Nat.reduceSub, Nat.reduceAdd, Nat.reduceMul, Nat.reduceLT, Nat.reduceLeDiff, reduceCtorEq, ↓reduceIte, catT, enc0, enc1, if_pos, if_neg])
    | refine CWx.seq ?_
    | refine CWx.skip ?_
    | refine CWx.exit ?_
    | (refine CWx.ret fun al hal => finK_ext hal (finK_pure (.inr rfl) (by simp only [resRV, Am.get, Nat.reduceEqDiff, ↓reduceIte]; exact rfl) ?_ ?_); (focus (first | (rfl; done) | ((simp only [tupAV]; congr <;> omega); done) | (simp [tupAV, *]; done))); (focus (first | rfl | (simp [AV.allR, allRL, allRL_ix]; done))))
theorem c44 (l : List Pt) (hn : l.length < 4611686018427387904) (h8 : chk l = 0 → l.length ≤ 8) : CallsF Try.prog 44 [pts l] [] (farV (farR l)) [] := by
  have k := c50 l hn
  by_cases hc : chk l = 0
  · rw [hc] at k
    have l8 := h8 hc
    have qa := ok_P (chk_ok hc)
    by_cases h2 : l.length < 2
    · have hr : farR l = (0, (0, 0), 13) := by unfold farR; rw [if_neg (by simp [hc]), if_pos h2]
      rw [hr]
      refine callsF_cwx hm hf44 (by simp [cf44]) ?_
      simp only [cf44, argsAl]
      repeat' first
        | (refine hK _ _ _ (by first | exact fun h => Bool.noConfusion h | exact fun _ => rfl) ?_; clear hK K)
        | (refine CWx.r fun K hK => ?_; simp (maxSteps := 4000000) (disch := omega) only [dr0, dr1, dr2, dr3, dr4, if_true, if_false, Option.some.injEq, Nat.reduceEqDiff, Int.reduceToNat, Nat.reduceSub, Nat.reduceAdd, Nat.reduceMul, Nat.reduceLT, Nat.reduceLeDiff, reduceCtorEq, ↓reduceIte, catT, enc0, enc1, if_pos, if_neg])
        | refine CWx.go ?_
        | (apply RCx.view (fid := 50) (caps := []) rfl rfl; (focus ((simp only [evsA, evA_t, evA_c, Am.get, Nat.reduceEqDiff, ↓reduceIte, List.nil_append, List.cons_append, List.append_nil]; repeat' first | exact viewArgs_nil | apply viewArgs_cons | exact viewG_flat (flat_pts _ _) _ | exact viewG_flat (flat_ixV _ _) _ | exact viewG_flat (flat_sv _ _) _ | exact viewG_ixT rfl (by assumption) (by omega) | exact viewG_ptsL rfl (by first | omega | (simp; done) | (simp; omega)) | exact viewG_ix rfl (by first | omega | (simp; omega)) | exact viewG_flat rfl _; done))); (focus (refine k <;> first | omega | assumption)); (focus rfl); simp (maxSteps := 4000000) (disch := omega) only [dr0, dr1, dr2, dr3, dr4, if_true, if_false, Option.some.injEq, Nat.reduceEqDiff, Int.reduceToNat, Nat.reduceSub, Nat.reduceAdd, Nat.reduceMul, Nat.reduceLT, Nat.reduceLeDiff, reduceCtorEq, ↓reduceIte, catT, enc0, enc1, if_pos, if_neg])
        | (refine gX_split (fun hb => ?_) (fun hb => ?_) <;> (try simp only [hb]) <;> (try simp only [bset0, reduceCtorEq] at hb) <;> first | omega | simp (maxSteps := 4000000) (disch := omega) only [dr0, dr1, dr2, dr3, dr4, if_true, if_false, Option.some.injEq, Nat.reduceEqDiff, Int.reduceToNat, Nat.reduceSub, Nat.reduceAdd, Nat.reduceMul, Nat.reduceLT, Nat.reduceLeDiff, reduceCtorEq, ↓reduceIte, catT, enc0, enc1, if_pos, if_neg])
        | (refine CWx.br rfl (fun hb => ?_) (fun hb => ?_) <;> first | exact Bool.noConfusion hb | (first | (simp only [bset0, reduceCtorEq] at hb; done) | ((try simp only [bset0, reduceCtorEq] at hb); first | omega | skip)))
        | (refine CWx.e fun K hK => ?_; simp (maxSteps := 4000000) (disch := omega) only [dr0, dr1, dr2, dr3, dr4, if_true, if_false, Option.some.injEq, Nat.reduceEqDiff, Int.reduceToNat, Nat.reduceSub, Nat.reduceAdd, Nat.reduceMul, Nat.reduceLT, Nat.reduceLeDiff, reduceCtorEq, ↓reduceIte, catT, enc0, enc1, if_pos, if_neg])
        | refine CWx.seq ?_
        | refine CWx.block (id := 1) ?_
        | refine CWx.block (id := 3) ?_
        | refine CWx.skip ?_
        | refine CWx.exit ?_
        | (refine CWx.ret fun al hal => finK_ext hal (finK_pure (.inr rfl) (by simp only [resRV, Am.get, Nat.reduceEqDiff, ↓reduceIte]; exact rfl) ?_ ?_); (focus (first | (rfl; done) | (rfl; done) | ((simp only [tupAV]; congr <;> omega); done) | (simp [tupAV, *]; done))); (focus (first | rfl | (simp [AV.allR, allRL, allRL_ix]; done))))
    · have hr : farR l = ((farI l l.length).1, (farI l l.length).2, 0) := by unfold farR; rw [if_neg (by simp [hc]), if_neg h2]
      rw [hr]
      refine callsF_cwx hm hf44 (by simp [cf44]) ?_
      simp only [cf44, argsAl]
      repeat' first
        | (refine hK _ _ _ (by first | exact fun h => Bool.noConfusion h | exact fun _ => rfl) ?_; clear hK K)
        | (refine CWx.r fun K hK => ?_; simp (maxSteps := 4000000) (disch := omega) only [dr0, dr1, dr2, dr3, dr4, if_true, if_false, Option.some.injEq, Nat.reduceEqDiff, Int.reduceToNat, Nat.reduceSub, Nat.reduceAdd, Nat.reduceMul, Nat.reduceLT, Nat.reduceLeDiff, reduceCtorEq, ↓reduceIte, catT, enc0, enc1, if_pos, if_neg])
        | refine CWx.go ?_
        | (apply RCx.view (fid := 50) (caps := []) rfl rfl; (focus ((simp only [evsA, evA_t, evA_c, Am.get, Nat.reduceEqDiff, ↓reduceIte, List.nil_append, List.cons_append, List.append_nil]; repeat' first | exact viewArgs_nil | apply viewArgs_cons | exact viewG_flat (flat_pts _ _) _ | exact viewG_flat (flat_ixV _ _) _ | exact viewG_flat (flat_sv _ _) _ | exact viewG_ixT rfl (by assumption) (by omega) | exact viewG_ptsL rfl (by first | omega | (simp; done) | (simp; omega)) | exact viewG_ix rfl (by first | omega | (simp; omega)) | exact viewG_flat rfl _; done))); (focus (refine k <;> first | omega | assumption)); (focus rfl); simp (maxSteps := 4000000) (disch := omega) only [dr0, dr1, dr2, dr3, dr4, if_true, if_false, Option.some.injEq, Nat.reduceEqDiff, Int.reduceToNat, Nat.reduceSub, Nat.reduceAdd, Nat.reduceMul, Nat.reduceLT, Nat.reduceLeDiff, reduceCtorEq, ↓reduceIte, catT, enc0, enc1, if_pos, if_neg])
        | (apply RCx.view (fid := 57) (caps := []) rfl rfl; (focus ((simp only [evsA, evA_t, evA_c, Am.get, Nat.reduceEqDiff, ↓reduceIte, List.nil_append, List.cons_append, List.append_nil]; repeat' first | exact viewArgs_nil | apply viewArgs_cons | exact viewG_flat (flat_pts _ _) _ | exact viewG_flat (flat_ixV _ _) _ | exact viewG_flat (flat_sv _ _) _ | exact viewG_ixT rfl (by assumption) (by omega) | exact viewG_ptsL rfl (by first | omega | (simp; done) | (simp; omega)) | exact viewG_ix rfl (by first | omega | (simp; omega)) | exact viewG_flat rfl _; done))); (focus (refine c57' (qa _ ?_) (qa _ ?_) <;> first | omega | assumption)); (focus rfl); simp (maxSteps := 4000000) (disch := omega) only [dr0, dr1, dr2, dr3, dr4, if_true, if_false, Option.some.injEq, Nat.reduceEqDiff, Int.reduceToNat, Nat.reduceSub, Nat.reduceAdd, Nat.reduceMul, Nat.reduceLT, Nat.reduceLeDiff, reduceCtorEq, ↓reduceIte, catT, enc0, enc1, if_pos, if_neg])
        | (apply RCx.view (fid := 56) (caps := []) rfl rfl; (focus ((simp only [evsA, evA_t, evA_c, Am.get, Nat.reduceEqDiff, ↓reduceIte, List.nil_append, List.cons_append, List.append_nil]; repeat' first | exact viewArgs_nil | apply viewArgs_cons | exact viewG_flat (flat_pts _ _) _ | exact viewG_flat (flat_ixV _ _) _ | exact viewG_flat (flat_sv _ _) _ | exact viewG_ixT rfl (by assumption) (by omega) | exact viewG_ptsL rfl (by first | omega | (simp; done) | (simp; omega)) | exact viewG_ix rfl (by first | omega | (simp; omega)) | exact viewG_flat rfl _; done))); (focus (refine c56' (sub_small (qa i ?_) (qa j ?_)) (sub_small (qa i ?_) (qa j ?_)) <;> first | omega | assumption)); (focus rfl); simp (maxSteps := 4000000) (disch := omega) only [dr0, dr1, dr2, dr3, dr4, if_true, if_false, Option.some.injEq, Nat.reduceEqDiff, Int.reduceToNat, Nat.reduceSub, Nat.reduceAdd, Nat.reduceMul, Nat.reduceLT, Nat.reduceLeDiff, reduceCtorEq, ↓reduceIte, catT, enc0, enc1, if_pos, if_neg])
        | (refine gX_split (fun hb => ?_) (fun hb => ?_) <;> (try simp only [hb]) <;> (try simp only [bset0, reduceCtorEq] at hb) <;> first | omega | simp (maxSteps := 4000000) (disch := omega) only [dr0, dr1, dr2, dr3, dr4, if_true, if_false, Option.some.injEq, Nat.reduceEqDiff, Int.reduceToNat, Nat.reduceSub, Nat.reduceAdd, Nat.reduceMul, Nat.reduceLT, Nat.reduceLeDiff, reduceCtorEq, ↓reduceIte, catT, enc0, enc1, if_pos, if_neg])
        | (refine CWx.br rfl (fun hb => ?_) (fun hb => ?_) <;> first | exact Bool.noConfusion hb | (first | (simp only [bset0, reduceCtorEq] at hb; done) | ((try simp only [bset0, reduceCtorEq] at hb); first | omega | skip)))
        | (refine CWx.e fun K hK => ?_; simp (maxSteps := 4000000) (disch := omega) only [dr0, dr1, dr2, dr3, dr4, if_true, if_false, Option.some.injEq, Nat.reduceEqDiff, Int.reduceToNat, Nat.reduceSub, Nat.reduceAdd, Nat.reduceMul, Nat.reduceLT, Nat.reduceLeDiff, reduceCtorEq, ↓reduceIte, catT, enc0, enc1, if_pos, if_neg])
        | (refine CWx.block (id := 0) ?_; refine CWx.loopK (ι := Nat) [0, 3, 7, 24, 25] (fun i => l.length - i) (fun i => [(26, .int .i64 (i : Int)), (6, .int .i64 (farI l i).1)]) (fun i => [.row false 0 false 2 [pt (0, 0)], .row false 0 false 2 [pt (farI l i).2]]) (fun i => i ≤ l.length) (fun i => by simp only [keepA, Am.get, List.cons_append, List.nil_append, Nat.reduceEqDiff, ↓reduceIte]; exact rfl) (0) ?_ ?_ (fun i hi => ?_); (focus ((try dsimp only) <;> (first | trivial | omega | (refine ⟨?_, ?_⟩ <;> first | omega | trivial | simp_all) | simp_all); done)); (focus (refine Fgt.mk' 2 (by simp) ?_ ?_ ?_ <;> simp [-List.map_take, -List.map_map, AV.isY, ltL_append, ix_nil, keepB, Am.get, AV.lt, ltL, lt_pts, lt_pt, lt_ixV, ltL_ix, ltL_pt, Blk.lt, ltB, farI_zero]; done)); have Hi := hi; (skip))
        | (refine CWx.block (id := 2) ?_; refine CWx.loopK (ι := Nat) [0, 3, 7, 8, 9, 24, 25, 26] (fun j => l.length - j) (fun j => [(10, .int .i64 (j : Int)), (6, .int .i64 (farK l i j).1)]) (fun j => [.row false 0 false 2 [pt (0, 0)], .row false 0 false 2 [pt (farK l i j).2], .row false 0 false 2 [pt (P l i)]]) (fun j => i + 1 ≤ j ∧ j ≤ l.length) (fun i => by simp only [keepA, Am.get, List.cons_append, List.nil_append, Nat.reduceEqDiff, ↓reduceIte]; exact rfl) ((i + 1)) ?_ ?_ (fun j hi => ?_); (focus ((try dsimp only) <;> (first | trivial | omega | (refine ⟨?_, ?_⟩ <;> first | omega | trivial | simp_all) | simp_all); done)); (focus (refine Fgt.mk' 3 (by simp) ?_ ?_ ?_ <;> simp [-List.map_take, -List.map_map, AV.isY, ltL_append, ix_nil, keepB, Am.get, AV.lt, ltL, lt_pts, lt_pt, lt_ixV, ltL_ix, ltL_pt, Blk.lt, ltB, farK_zero]; done)); have Hj := hi; ((have hd2 : dot (sub (P l i) (P l j)) (sub (P l i) (P l j)) = d2 (P l i) (P l j) := rfl)))
        | refine CWx.seq ?_
        | refine CWx.block (id := 1) ?_
        | refine CWx.block (id := 3) ?_
        | refine CWx.skip ?_
        | (refine CWx.exit (id := 2) ?_; (have ej : j = l.length := by omega); simp only [ej])
        | (refine CWx.exit (id := 0) ?_; (have ei : i = l.length := by omega); simp only [ei])
        | refine CWx.exit ?_
        | (refine CWx.ret fun al hal => finK_ext hal (finK_pure (.inr rfl) (by simp only [resRV, Am.get, Nat.reduceEqDiff, ↓reduceIte]; exact rfl) ?_ ?_); (focus (first | (rfl; done) | (rfl; done) | ((simp only [tupAV]; congr <;> omega); done) | (simp [tupAV, *]; done))); (focus (first | rfl | (simp [AV.allR, allRL, allRL_ix]; done))))
        | (intro al hal; refine ⟨j + 1, ?_, ?_, Fgt.ofx hal ?_⟩; (focus (first | omega | (dsimp only; omega))); (focus ((try dsimp only) <;> (first | trivial | omega | (refine ⟨?_, ?_⟩ <;> first | omega | trivial | simp_all) | simp_all); done)); (focus (refine Fgt.mk' 3 (by simp) ?_ ?_ ?_ <;> simp [-List.map_take, -List.map_map, AV.isY, ltL_append, ix_nil, keepB, Am.get, AV.lt, ltL, lt_pts, lt_pt, lt_ixV, ltL_ix, ltL_pt, Blk.lt, ltB, farK_zero, farK_t l i j (by omega) (by omega), d2]; done)))
        | (intro al hal; refine ⟨j + 1, ?_, ?_, Fgt.ofx hal ?_⟩; (focus (first | omega | (dsimp only; omega))); (focus ((try dsimp only) <;> (first | trivial | omega | (refine ⟨?_, ?_⟩ <;> first | omega | trivial | simp_all) | simp_all); done)); (focus (refine Fgt.mk' 3 (by simp) ?_ ?_ ?_ <;> simp [-List.map_take, -List.map_map, AV.isY, ltL_append, ix_nil, keepB, Am.get, AV.lt, ltL, lt_pts, lt_pt, lt_ixV, ltL_ix, ltL_pt, Blk.lt, ltB, farK_zero, farK_f l i j (by omega) (by omega)]; done)))
        | (intro al hal; refine ⟨i + 1, ?_, ?_, Fgt.ofx hal ?_⟩; (focus (first | omega | (dsimp only; omega))); (focus ((try dsimp only) <;> (first | trivial | omega | (refine ⟨?_, ?_⟩ <;> first | omega | trivial | simp_all) | simp_all); done)); (focus (refine Fgt.mk' 2 (by simp) ?_ ?_ ?_ <;> simp [-List.map_take, -List.map_map, AV.isY, ltL_append, ix_nil, keepB, Am.get, AV.lt, ltL, lt_pts, lt_pt, lt_ixV, ltL_ix, ltL_pt, Blk.lt, ltB, farI_zero, farI_succ]; done)))
  · have hr : farR l = (0, (0, 0), chk l) := by unfold farR; rw [if_pos hc]
    rw [hr]
    refine callsF_cwx hm hf44 (by simp [cf44]) ?_
    simp only [cf44, argsAl]
    repeat' first
      | (refine hK _ _ _ (by first | exact fun h => Bool.noConfusion h | exact fun _ => rfl) ?_; clear hK K)
      | (refine CWx.r fun K hK => ?_; simp (maxSteps := 4000000) (disch := omega) only [dr0, dr1, dr2, dr3, dr4, if_true, if_false, Option.some.injEq, Nat.reduceEqDiff, Int.reduceToNat, Nat.reduceSub, Nat.reduceAdd, Nat.reduceMul, Nat.reduceLT, Nat.reduceLeDiff, reduceCtorEq, ↓reduceIte, catT, enc0, enc1, if_pos, if_neg])
      | refine CWx.go ?_
      | (apply RCx.view (fid := 50) (caps := []) rfl rfl; (focus ((simp only [evsA, evA_t, evA_c, Am.get, Nat.reduceEqDiff, ↓reduceIte, List.nil_append, List.cons_append, List.append_nil]; repeat' first | exact viewArgs_nil | apply viewArgs_cons | exact viewG_flat (flat_pts _ _) _ | exact viewG_flat (flat_ixV _ _) _ | exact viewG_flat (flat_sv _ _) _ | exact viewG_ixT rfl (by assumption) (by omega) | exact viewG_ptsL rfl (by first | omega | (simp; done) | (simp; omega)) | exact viewG_ix rfl (by first | omega | (simp; omega)) | exact viewG_flat rfl _; done))); (focus (refine k <;> first | omega | assumption)); (focus rfl); simp (maxSteps := 4000000) (disch := omega) only [dr0, dr1, dr2, dr3, dr4, if_true, if_false, Option.some.injEq, Nat.reduceEqDiff, Int.reduceToNat, Nat.reduceSub, Nat.reduceAdd, Nat.reduceMul, Nat.reduceLT, Nat.reduceLeDiff, reduceCtorEq, ↓reduceIte, catT, enc0, enc1, if_pos, if_neg])
      | (refine gX_split (fun hb => ?_) (fun hb => ?_) <;> (try simp only [hb]) <;> (try simp only [bset0, reduceCtorEq] at hb) <;> simp (maxSteps := 4000000) (disch := omega) only [dr0, dr1, dr2, dr3, dr4, if_true, if_false, Option.some.injEq, Nat.reduceEqDiff, Int.reduceToNat, Nat.reduceSub, Nat.reduceAdd, Nat.reduceMul, Nat.reduceLT, Nat.reduceLeDiff, reduceCtorEq, ↓reduceIte, catT, enc0, enc1, if_pos, if_neg])
      | (refine CWx.br rfl (fun hb => ?_) (fun hb => ?_) <;> first | exact Bool.noConfusion hb | (first | (simp only [bset0, reduceCtorEq] at hb; done) | ((try simp only [bset0, reduceCtorEq] at hb); first | contradiction | skip)))
      | (refine CWx.e fun K hK => ?_; simp (maxSteps := 4000000) (disch := omega) only [dr0, dr1, dr2, dr3, dr4, if_true, if_false, Option.some.injEq, Nat.reduceEqDiff, Int.reduceToNat, Nat.reduceSub, Nat.reduceAdd, Nat.reduceMul, Nat.reduceLT, Nat.reduceLeDiff, reduceCtorEq, ↓reduceIte, catT, enc0, enc1, if_pos, if_neg])
      | refine CWx.seq ?_
      | refine CWx.block (id := 1) ?_
      | refine CWx.block (id := 3) ?_
      | refine CWx.skip ?_
      | refine CWx.exit ?_
      | (refine CWx.ret fun al hal => finK_ext hal (finK_pure (.inr rfl) (by simp only [resRV, Am.get, Nat.reduceEqDiff, ↓reduceIte]; exact rfl) ?_ ?_); (focus (first | (rfl; done) | (rfl; done) | ((simp only [tupAV]; congr <;> omega); done) | (simp [tupAV, *]; done))); (focus (first | rfl | (simp [AV.allR, allRL, allRL_ix]; done))))
end Go.Hull
end
section
set_option linter.unusedSimpArgs false
set_option linter.unusedVariables false
set_option maxHeartbeats 4000000
namespace Go.Hull
open Go Go.Am Go.Proofs

theorem prs_mem {ok : Nat → Nat → Bool} : ∀ {S : List Nat}, S.Pairwise (fun a b => a < b) → ∀ p, p ∈ prs ok S ↔ ∃ i j, i ∈ S ∧ j ∈ S ∧ i < j ∧ ok i j = true ∧ p = ((i : Int), (j : Int)) := by
  intro S
  induction S with
  | nil => intro _ p; simp [prs]
  | cons a t ih =>
    intro h p
    obtain ⟨h1, h2⟩ := List.pairwise_cons.1 h
    rw [prs, List.mem_append, ih h2, List.mem_map]
    constructor
    · rintro (⟨b, hb, rfl⟩ | ⟨i, j, hi, hj, hlt, hok, rfl⟩)
      · obtain ⟨hb1, hb2⟩ := List.mem_filter.1 hb
        exact ⟨a, b, by simp, by simp [hb1], h1 b hb1, hb2, rfl⟩
      · exact ⟨i, j, by simp [hi], by simp [hj], hlt, hok, rfl⟩
    · rintro ⟨i, j, hi, hj, hlt, hok, rfl⟩
      rcases List.mem_cons.1 hi with e | hi2
      · rcases List.mem_cons.1 hj with e2 | hj2
        · omega
        · subst e; exact .inl ⟨j, List.mem_filter.2 ⟨hj2, hok⟩, rfl⟩
      · rcases List.mem_cons.1 hj with e2 | hj2
        · have := h1 i hi2; omega
        · exact .inr ⟨i, j, hi2, hj2, hlt, hok, rfl⟩
theorem antR_prs {l : List Pt} (hc : chk l = 0) : (antR l).1 = prs (facB l) (vS l) := by
  unfold antR
  rw [if_neg (by simp [hc]), prI_prs, show okB l = fun a b => vertexB l a && (vertexB l b && facB l a b) from rfl, prs_filter, ← vS_eq]
/-- The antipodal pairs. -/
theorem ant_mem {l : List Pt} (hc : chk l = 0) (p : Pt) : p ∈ (antR l).1 ↔ ∃ i j, i ∈ hullI l ∧ j ∈ hullI l ∧ i < j ∧ facB l i j = true ∧ p = ((i : Int), (j : Int)) := by
  rw [antR_prs hc, prs_mem (by rw [vS_eq]; exact List.pairwise_lt_range.filter _)]
  have hm : ∀ x, x ∈ vS l ↔ x ∈ hullI l := fun x => insort_mem (lt := ltN) _ _
  simp only [hm]
theorem opp_sw {l : List Pt} {a b d : Pt} (h : Opp l a b d) : Opp l b a (neg d) := ⟨fun q hq => by have := h.2 q hq; simp only [dot_neg]; omega, fun q hq => by have := h.1 q hq; simp only [dot_neg]; omega⟩
theorem facB_sw {l : List Pt} {i j : Nat} (hi : i < l.length) (hj : j < l.length) (h : facB l i j = true) : facB l j i = true := by
  have hl : 0 < l.length := by omega
  obtain ⟨p, hp, q, hq, hne, d, hd, ho⟩ := (facB_iff hl hi hj).1 h
  refine (facB_iff hl hj hi).2 ⟨p, hp, q, hq, hne, neg d, ?_, opp_sw ho⟩
  rcases hd with rfl | rfl
  · right; simp only [neg, Int.neg_neg]
  · left; simp only [neg, Int.neg_neg]
/-- Two vertices that face each other are told, the lesser one first. -/
theorem ant_minmax {l : List Pt} (hc : chk l = 0) {i j : Nat} (hi : i ∈ hullI l) (hj : j ∈ hullI l) (hne : i ≠ j) (h : facB l i j = true) : (minI (i : Int) (j : Int), maxI (i : Int) (j : Int)) ∈ (antR l).1 := by
  rw [ant_mem hc]
  simp only [minI, maxI]
  by_cases hlt : i < j
  · refine ⟨i, j, hi, hj, hlt, h, ?_⟩
    rw [if_neg (by omega), if_pos (by omega)]
  · refine ⟨j, i, hj, hi, by omega, facB_sw (hull_mem i hi) (hull_mem j hj) h, ?_⟩
    rw [if_pos (by omega), if_neg (by omega)]
-- a side
theorem left_dot (p q x : Pt) : left p q x = dot x (-(sub q p).2, (sub q p).1) - dot p (-(sub q p).2, (sub q p).1) := by
  simp only [left, turn, sub, dot]; grind
theorem side_big {l : List Pt} (hl : 0 < l.length) {i : Nat} (hi : i < (hullI l).length) {c : Nat} (hc : c ∈ hullI l) (hpos : 0 < left (P l ((hullI l).getD i 0)) (P l ((hullI l).getD ((i + 1) % (hullI l).length) 0)) (P l c)) : 2 < (hullI l).length := by
  by_cases h3 : 2 < (hullI l).length
  · exact h3
  · exfalso
    obtain ⟨m, hm, e⟩ := mem_getD hc
    have h12 : (hullI l).length = 1 ∨ (hullI l).length = 2 := by omega
    have l0 : ∀ a b : Pt, left a b a = 0 := fun a b => by simp only [left, turn, sub]; grind
    have l1 : ∀ a b : Pt, left a b b = 0 := fun a b => by simp only [left, turn, sub]; grind
    have : c = (hullI l).getD i 0 ∨ c = (hullI l).getD ((i + 1) % (hullI l).length) 0 := by
      rw [← e]
      by_cases h : m = i
      · rw [h]; exact .inl rfl
      · right
        rcases h12 with h1 | h1
        · omega
        · rw [h1]
          have : (i + 1) % 2 = m := by omega
          rw [this]
    rcases this with e | e
    · rw [← e, l0] at hpos; omega
    · rw [← e, l1] at hpos; omega
theorem side_far {l : List Pt} (hl : 0 < l.length) {i : Nat} (hi : i < (hullI l).length) {f : Nat} (hf : f ∈ hullI l)
    (hpos : 0 < left (P l ((hullI l).getD i 0)) (P l ((hullI l).getD ((i + 1) % (hullI l).length) 0)) (P l f))
    (hmax : ∀ c ∈ hullI l, left (P l ((hullI l).getD i 0)) (P l ((hullI l).getD ((i + 1) % (hullI l).length) 0)) (P l c) ≤ left (P l ((hullI l).getD i 0)) (P l ((hullI l).getD ((i + 1) % (hullI l).length) 0)) (P l f)) :
    facB l ((hullI l).getD i 0) f = true ∧ facB l ((hullI l).getD ((i + 1) % (hullI l).length) 0) f = true := by
  have h3 := side_big hl hi hf hpos
  have V := hullV l hl
  have big := V.T.big h3 i hi
  obtain ⟨a, ha⟩ : ∃ a, a = (hullI l).getD i 0 := ⟨_, rfl⟩
  obtain ⟨b, hb⟩ : ∃ b, b = (hullI l).getD ((i + 1) % (hullI l).length) 0 := ⟨_, rfl⟩
  have hal : a ∈ hullI l := by rw [ha]; exact getD_mem hi
  have hbl : b ∈ hullI l := by rw [hb]; exact getD_mem (Nat.mod_lt _ (by omega))
  rw [← ha, ← hb] at hpos hmax big ⊢
  have hab : P l a ≠ P l b := fun e => by
    rw [e] at hpos
    have : left (P l b) (P l b) (P l f) = 0 := by simp only [left, turn, sub]; grind
    omega
  obtain ⟨J, hJ⟩ : ∃ J : Pt, J = (-(sub (P l b) (P l a)).2, (sub (P l b) (P l a)).1) := ⟨_, rfl⟩
  have ld : ∀ x, left (P l a) (P l b) x = dot x J - dot (P l a) J := fun x => by rw [hJ]; exact left_dot _ _ _
  have hba : dot (P l b) J = dot (P l a) J := by
    have h1 := ld (P l b)
    have h2 : left (P l a) (P l b) (P l b) = 0 := by simp only [left, turn, sub]; grind
    omega
  have top : ∀ q ∈ l, dot q J ≤ dot (P l f) J := hull_top hl J _ fun q hq => by
    obtain ⟨m, hm, rfl⟩ := hq
    have h1 := hmax _ (getD_mem hm)
    rw [ld, ld] at h1
    rw [vx_lt hm]; omega
  have low : ∀ q ∈ l, dot (P l a) J ≤ dot q J := fun q hq => by
    have h1 := big q hq
    rw [ld] at h1; omega
  have fin : ∀ x, x ∈ hullI l → dot (P l x) J = dot (P l a) J → facB l x f = true := fun x hx e => by
    refine facB_sw (hull_mem f hf) (hull_mem x hx) ((facB_iff hl (hull_mem f hf) (hull_mem x hx)).2 ⟨P l a, P_mem (hull_mem a hal), P l b, P_mem (hull_mem b hbl), hab, J, .inl hJ, top, fun q hq => ?_⟩)
    have := low q hq
    omega
  exact ⟨fin a hal rfl, fin b hbl hba⟩
-- the farthest pair
theorem dot_self_nn (u : Pt) : 0 ≤ dot u u := by
  by_cases h : u = (0, 0)
  · rw [h]; decide
  · exact Int.le_of_lt (dot_self_pos h)
theorem d2_nn (p q : Pt) : 0 ≤ d2 p q := dot_self_nn _
theorem farJ_spec (l : List Pt) (i : Nat) (s : Int × Pt) : ∀ m, s.1 ≤ (farJ l i s m).1 ∧ (∀ k, k < m → d2 (P l i) (P l (i + 1 + k)) ≤ (farJ l i s m).1) ∧ ((farJ l i s m).1 = s.1 ∨ ∃ k, k < m ∧ (farJ l i s m).1 = d2 (P l i) (P l (i + 1 + k))) := by
  intro m
  induction m with
  | zero => exact ⟨Int.le_refl _, fun k hk => by omega, .inl rfl⟩
  | succ m ih =>
    obtain ⟨h1, h2, h3⟩ := ih
    rw [farJ, upd2]
    split
    · rename_i hlt
      refine ⟨by simp only; omega, fun k hk => ?_, .inr ⟨m, by omega, rfl⟩⟩
      by_cases e : k = m
      · rw [e]; exact Int.le_refl _
      · have := h2 k (by omega); simp only; omega
    · rename_i hlt
      refine ⟨h1, fun k hk => ?_, ?_⟩
      · by_cases e : k = m
        · rw [e]; omega
        · exact h2 k (by omega)
      · rcases h3 with h3 | ⟨k, hk, h3⟩
        · exact .inl h3
        · exact .inr ⟨k, by omega, h3⟩
theorem farI_spec (l : List Pt) : ∀ i, i ≤ l.length → (∀ a b, a < i → a < b → b < l.length → d2 (P l a) (P l b) ≤ (farI l i).1) ∧ ((farI l i).1 = -1 ∨ ∃ a b, a < b ∧ b < l.length ∧ (farI l i).1 = d2 (P l a) (P l b)) := by
  intro i
  induction i with
  | zero => intro _; exact ⟨fun a b ha => by omega, .inl rfl⟩
  | succ i ih =>
    intro h
    obtain ⟨h1, h2⟩ := ih (by omega)
    obtain ⟨j1, j2, j3⟩ := farJ_spec l i (farI l i) (l.length - (i + 1))
    rw [farI]
    refine ⟨fun a b ha hab hb => ?_, ?_⟩
    · by_cases e : a = i
      · have := j2 (b - (i + 1)) (by omega)
        rw [show i + 1 + (b - (i + 1)) = b by omega] at this
        rw [e]; exact this
      · have := h1 a b (by omega) hab hb; omega
    · rcases j3 with j3 | ⟨k, hk, j3⟩
      · rw [j3]; exact h2
      · exact .inr ⟨i, i + 1 + k, by omega, by omega, j3⟩
def bN (l V : List Pt) : Nat → Int
  | 0 => 0
  | k + 1 => maxI (bN l V k) (d2 (P l (P V k).1.toNat) (P l (P V k).2.toNat))
theorem bN_zero (l V : List Pt) : bN l V 0 = 0 := rfl
theorem bN_succ (l V : List Pt) (k : Nat) : bN l V (k + 1) = maxI (bN l V k) (d2 (P l (P V k).1.toNat) (P l (P V k).2.toNat)) := rfl
theorem bN_spec (l V : List Pt) : ∀ m, 0 ≤ bN l V m ∧ (∀ k, k < m → d2 (P l (P V k).1.toNat) (P l (P V k).2.toNat) ≤ bN l V m) ∧ (bN l V m = 0 ∨ ∃ k, k < m ∧ bN l V m = d2 (P l (P V k).1.toNat) (P l (P V k).2.toNat)) := by
  intro m
  induction m with
  | zero => exact ⟨Int.le_refl _, fun k hk => by omega, .inl rfl⟩
  | succ m ih =>
    obtain ⟨h1, h2, h3⟩ := ih
    rw [bN_succ]
    simp only [maxI, gt_iff_lt]
    split
    · rename_i hlt
      refine ⟨by omega, fun k hk => ?_, .inr ⟨m, by omega, rfl⟩⟩
      by_cases e : k = m
      · rw [e]; exact Int.le_refl _
      · have := h2 k (by omega); omega
    · rename_i hlt
      refine ⟨h1, fun k hk => ?_, ?_⟩
      · by_cases e : k = m
        · rw [e]; omega
        · exact h2 k (by omega)
      · rcases h3 with h3 | ⟨k, hk, h3⟩
        · exact .inl h3
        · exact .inr ⟨k, by omega, h3⟩
theorem d2_par (p q x : Pt) : dot (sub x p) (sub x p) = dot (sub q p) (sub q p) + 2 * (dot x (sub q p) - dot q (sub q p)) + dot (sub x q) (sub x q) := by
  simp only [dot, sub]; grind
theorem d2_sw (p q : Pt) : d2 p q = d2 q p := by simp only [d2, dot, sub]; grind
/-- A point that is by itself highest is a vertex. -/
theorem top_vertex {l : List Pt} (hl : 0 < l.length) {q d : Pt} (hq : q ∈ l) (h : ∀ x ∈ l, x ≠ q → dot x d < dot q d) : ∃ i, i ∈ hullI l ∧ P l i = q := by
  by_cases hx : ∃ i, i ∈ hullI l ∧ P l i = q
  · exact hx
  · exfalso
    have V := hullV l hl
    have := hull_top hl d (dot q d - 1) (fun x hxv => by
      have hxl := isV_mem V hxv
      obtain ⟨m, hm, e⟩ := hxv
      have := h x hxl fun e' => hx ⟨_, getD_mem hm, by rw [← vx_lt hm, ← e, e']⟩
      omega) q hq
    omega
theorem far_ant {l : List Pt} (hc : chk l = 0) {a b : Nat} (ha : a < l.length) (hb : b < l.length) (hpos : 0 < d2 (P l a) (P l b)) (hmax : ∀ x y, x < l.length → y < l.length → d2 (P l x) (P l y) ≤ d2 (P l a) (P l b)) : ∃ i j : Nat, ((i : Int), (j : Int)) ∈ (antR l).1 ∧ d2 (P l i) (P l j) = d2 (P l a) (P l b) := by
  have hl : 0 < l.length := by omega
  have one : ∀ a b, a < l.length → b < l.length → (∀ x y, x < l.length → y < l.length → d2 (P l x) (P l y) ≤ d2 (P l a) (P l b)) → ∀ x ∈ l, x ≠ P l b → dot x (sub (P l b) (P l a)) < dot (P l b) (sub (P l b) (P l a)) := fun a b ha hb hmax x hx hne => by
    obtain ⟨k, hk, rfl⟩ := mem_P hx
    have e := d2_par (P l a) (P l b) (P l k)
    have h1 := hmax k a hk ha
    rw [d2_sw (P l a) (P l b)] at h1
    simp only [d2] at h1
    have h2 : 0 < dot (sub (P l k) (P l b)) (sub (P l k) (P l b)) := dot_self_pos fun e => hne (by
      simp only [sub, Prod.mk.injEq] at e; exact Prod.ext (by omega) (by omega))
    omega
  have hab : P l b ≠ P l a := fun e => by
    rw [e] at hpos
    have : d2 (P l a) (P l a) = 0 := by simp only [d2, dot, sub]; grind
    omega
  obtain ⟨i, hi, ei⟩ := top_vertex hl (P_mem hb) (one a b ha hb hmax)
  obtain ⟨j, hj, ej⟩ := top_vertex hl (P_mem ha) (one b a hb ha fun x y hx hy => by rw [d2_sw (P l b)]; exact hmax x y hx hy)
  have hij : i ≠ j := fun e => hab (by rw [← ei, ← ej, e])
  have le1 : ∀ x ∈ l, dot x (sub (P l b) (P l a)) ≤ dot (P l b) (sub (P l b) (P l a)) := fun x hx => by
    by_cases e : x = P l b
    · rw [e]; exact Int.le_refl _
    · exact Int.le_of_lt (one a b ha hb hmax x hx e)
  have le2 : ∀ x ∈ l, dot (P l a) (sub (P l b) (P l a)) ≤ dot x (sub (P l b) (P l a)) := fun x hx => by
    by_cases e : x = P l a
    · rw [e]; exact Int.le_refl _
    · have := one b a hb ha (fun x y hx hy => by rw [d2_sw (P l b)]; exact hmax x y hx hy) x hx e
      have e1 : ∀ y : Pt, dot y (sub (P l a) (P l b)) = - dot y (sub (P l b) (P l a)) := fun y => by simp only [dot, sub]; grind
      rw [e1, e1] at this; omega
  have hd : sub (P l b) (P l a) ≠ (0, 0) := fun e => hab (by
    simp only [sub, Prod.mk.injEq] at e; exact Prod.ext (by omega) (by omega))
  obtain ⟨e, he, p, hp, hne, d', hd', ho⟩ := opp_turn (P_mem hb) (P_mem ha) hab hd ⟨le1, le2⟩
  have hf : facB l i j = true := (facB_iff hl (hull_mem i hi) (hull_mem j hj)).2 ⟨e, by rcases he with rfl | rfl; exact P_mem hb; exact P_mem ha, p, hp, fun h => hne h.symm, d', hd', by rw [ei, ej]; exact ho⟩
  by_cases hlt : i < j
  · exact ⟨i, j, (ant_mem hc _).2 ⟨i, j, hi, hj, hlt, hf, rfl⟩, by rw [ei, ej, d2_sw]⟩
  · exact ⟨j, i, (ant_mem hc _).2 ⟨j, i, hj, hi, by omega, facB_sw (hull_mem i hi) (hull_mem j hj) hf, rfl⟩, by rw [ei, ej]⟩
/-- The greatest distance is that of some antipodal pair. -/
theorem best_eq {l : List Pt} (hc : chk l = 0) (h2 : 2 ≤ l.length) : (farI l l.length).1 = bN l (antR l).1 (antR l).1.length := by
  obtain ⟨f1, f2⟩ := farI_spec l l.length (Nat.le_refl _)
  obtain ⟨b0, b1, b2⟩ := bN_spec l (antR l).1 (antR l).1.length
  have f0 : 0 ≤ (farI l l.length).1 := by
    have := f1 0 1 (by omega) (by omega) (by omega)
    have := d2_nn (P l 0) (P l 1); omega
  have self : ∀ p, d2 p p = 0 := fun p => by simp only [d2, dot, sub]; grind
  have fall : ∀ x y, x < l.length → y < l.length → d2 (P l x) (P l y) ≤ (farI l l.length).1 := fun x y hx hy => by
    by_cases h : x < y
    · exact f1 x y hx h hy
    · by_cases e : x = y
      · rw [e, self]; exact f0
      · rw [d2_sw]; exact f1 y x hy (by omega) hx
  apply Int.le_antisymm
  · rcases f2 with f2 | ⟨a, b, hab, hb, f2⟩
    · omega
    · by_cases hp : 0 < d2 (P l a) (P l b)
      · obtain ⟨i, j, hm, e⟩ := far_ant hc (by omega) hb hp fun x y hx hy => by rw [← f2]; exact fall x y hx hy
        obtain ⟨k, hk, ek⟩ := mem_P hm
        have := b1 k hk
        rw [ek] at this
        simp only [Int.toNat_natCast] at this
        omega
      · have := d2_nn (P l a) (P l b); omega
  · rcases b2 with b2 | ⟨k, hk, b2⟩
    · omega
    · obtain ⟨i, j, hi, hj, hij, hf, e⟩ := (ant_mem hc _).1 (P_mem hk)
      rw [b2, e]
      simp only [Int.toNat_natCast]
      exact fall i j (hull_mem i hi) (hull_mem j hj)
end Go.Hull
end
section
set_option linter.unusedSimpArgs false
set_option linter.unusedVariables false
set_option maxHeartbeats 8000000
set_option maxRecDepth 100000
namespace Go.Hull
open Go Go.Am Go.Proofs

def fiN (v : List Nat) (z : Int) : Int := if z ∈ v.map (fun x : Nat => (x : Int)) then (((v.map (fun x : Nat => (x : Int))).findIdx (fun x => decide (x = z)) : Nat) : Int) else -1
def fiP (v : List Pt) (z : Pt) : Int := if z ∈ v then ((v.findIdx (fun x => decide (x = z)) : Nat) : Int) else -1
theorem idx_at {α : Type} [DecidableEq α] {xs : List α} {z : α} {i : Nat} (hi : i < xs.length) (h : xs[i] = z) (hn : ∀ j (hj : j < i), xs[j]'(by omega) ≠ z) : xs.findIdx (fun x => decide (x = z)) = i := by
  rw [List.findIdx_eq hi]
  exact ⟨by simpa using h, fun j hj => by simpa using hn j hj⟩
theorem getD_int (v : List Nat) (i : Nat) (hi : i < v.length) : (v.map (fun x : Nat => (x : Int)))[i]'(by simpa using hi) = ((v.getD i 0 : Nat) : Int) := by
  rw [List.getElem_map, List.getD_eq_getElem?_getD, List.getElem?_eq_getElem hi]; rfl
theorem fiN_at {v : List Nat} {z : Int} {i : Nat} (hi : i < v.length) (h : z = ((v.getD i 0 : Nat) : Int)) (hn : ∀ j, j < i → z ≠ ((v.getD j 0 : Nat) : Int)) : fiN v z = i := by
  have hm : z ∈ v.map (fun x : Nat => (x : Int)) := List.mem_map.2 ⟨v.getD i 0, getD_mem hi, h.symm⟩
  rw [fiN, if_pos hm, idx_at (i := i) (by simpa using hi) (by rw [getD_int v i hi]; exact h.symm) (fun j hj => by rw [getD_int v j (by omega)]; exact fun e => hn j hj e.symm)]
theorem fiN_no {v : List Nat} {z : Int} (hn : ∀ j, j < v.length → z ≠ ((v.getD j 0 : Nat) : Int)) : fiN v z = -1 := by
  rw [fiN, if_neg]
  intro h
  obtain ⟨x, hx, rfl⟩ := List.mem_map.1 h
  obtain ⟨m, hm, e⟩ := mem_getD hx
  exact hn m hm (by rw [e])
theorem P_get (V : List Pt) (i : Nat) (hi : i < V.length) : V[i] = P V i := by
  unfold P; rw [List.getD_eq_getElem?_getD, List.getElem?_eq_getElem hi]; rfl
theorem fiP_at {v : List Pt} {z : Pt} {i : Nat} (hi : i < v.length) (h : z = P v i) (hn : ∀ j, j < i → z ≠ P v j) : fiP v z = i := by
  have hm : z ∈ v := by rw [h]; exact P_mem hi
  rw [fiP, if_pos hm, idx_at (i := i) hi (by rw [P_get v i hi]; exact h.symm) (fun j hj => by rw [P_get v j (by omega)]; exact fun e => hn j hj e.symm)]
theorem fiP_no {v : List Pt} {z : Pt} (hn : ∀ j, j < v.length → z ≠ P v j) : fiP v z = -1 := by
  rw [fiP, if_neg]
  intro h
  obtain ⟨m, hm, e⟩ := mem_P h
  exact hn m hm e.symm
theorem c76 (v : List Nat) (z : Int) (hn : v.length < 4611686018427387904) : CallsF Try.prog 76 [ixV v, .int .i64 z] [] (.int .i64 (fiN v z)) [] := by
  refine callsF_cwx hm hf76 (by simp [cf76]) ?_
  simp only [cf76, argsAl]
  repeat' first
    | (refine hK _ _ _ (by first | exact fun h => Bool.noConfusion h | exact fun _ => rfl) ?_; clear hK K)
    | (refine CWx.r fun K hK => ?_; simp (maxSteps := 4000000) (disch := omega) only [dr0, dr1, dr2, dr3, dr4, if_true, if_false, Option.some.injEq, Nat.reduceEqDiff, Int.reduceToNat, Nat.reduceSub, Nat.reduceAdd, Nat.reduceMul, Nat.reduceLT, Nat.reduceLeDiff, reduceCtorEq, ↓reduceIte, catT, enc0, enc1, if_pos, if_neg])
    | refine CWx.go ?_
    | (refine gX_split (fun hb => ?_) (fun hb => ?_) <;> (try simp only [hb]) <;> (try simp only [bset0, reduceCtorEq] at hb) <;> first | omega | simp (maxSteps := 4000000) (disch := omega) only [dr0, dr1, dr2, dr3, dr4, if_true, if_false, Option.some.injEq, Nat.reduceEqDiff, Int.reduceToNat, Nat.reduceSub, Nat.reduceAdd, Nat.reduceMul, Nat.reduceLT, Nat.reduceLeDiff, reduceCtorEq, ↓reduceIte, catT, enc0, enc1, if_pos, if_neg])
    | (refine CWx.br rfl (fun hb => ?_) (fun hb => ?_) <;> first | exact Bool.noConfusion hb | (first | (simp only [bset0, reduceCtorEq] at hb; done) | ((try simp only [bset0, reduceCtorEq] at hb); first | omega | skip)))
    | (refine CWx.e fun K hK => ?_; simp (maxSteps := 4000000) (disch := omega) only [dr0, dr1, dr2, dr3, dr4, if_true, if_false, Option.some.injEq, Nat.reduceEqDiff, Int.reduceToNat, Nat.reduceSub, Nat.reduceAdd, Nat.reduceMul, Nat.reduceLT, Nat.reduceLeDiff, reduceCtorEq, ↓reduceIte, catT, enc0, enc1, if_pos, if_neg])
    | (refine CWx.block (id := 0) ?_; refine CWx.loopK (ι := Nat) [0, 1, 7] (fun i => v.length - i) (fun i => [(8, .int .i64 (i : Int))]) (fun i => []) (fun i => i ≤ v.length ∧ ∀ j, j < i → z ≠ ((v.getD j 0 : Nat) : Int)) (fun i => by simp only [keepA, Am.get, List.cons_append, List.nil_append, Nat.reduceEqDiff, ↓reduceIte]; exact rfl) (0) ?_ ?_ (fun i hi => ?_); (focus ((try dsimp only) <;> (first | trivial | omega | (refine ⟨?_, ?_⟩ <;> first | omega | trivial | simp_all) | simp_all); done)); (focus (refine Fgt.mk' 0 (by simp) ?_ ?_ ?_ <;> simp [-List.map_take, -List.map_map, AV.isY, ltL_append, ix_nil, keepB, Am.get, AV.lt, ltL, lt_pts, lt_pt, lt_ixV, ltL_ix, ltL_pt, Blk.lt, ltB]; done)); have Hi := hi; (skip))
    | refine CWx.seq ?_
    | refine CWx.block (id := 1) ?_
    | refine CWx.skip ?_
    | refine CWx.exit ?_
    | (refine CWx.ret fun al hal => finK_ext hal (finK_pure (.inr rfl) (by simp only [resRV, Am.get, Nat.reduceEqDiff, ↓reduceIte]; exact rfl) ?_ ?_); (focus (first | ((simp only [tupAV]; rw [fiN_at (i := i) (by omega) (by omega) hi.2]); done) | ((simp only [tupAV]; rw [fiN_no (fun j hj => hi.2 j (by omega))]); done) | (rfl; done) | ((simp only [tupAV]; congr <;> omega); done) | (simp [tupAV, *]; done))); (focus (first | rfl | (simp [AV.allR, allRL, allRL_ix]; done))))
    | (intro al hal; refine ⟨i + 1, ?_, ?_, Fgt.ofx hal ?_⟩; (focus (first | omega | (dsimp only; omega))); (focus (exact ⟨by omega, allUp hi.2 (by omega)⟩; done)); (focus (refine Fgt.mk' 0 (by simp) ?_ ?_ ?_ <;> simp [-List.map_take, -List.map_map, AV.isY, ltL_append, ix_nil, keepB, Am.get, AV.lt, ltL, lt_pts, lt_pt, lt_ixV, ltL_ix, ltL_pt, Blk.lt, ltB]; done)))
theorem c77 (v : List Pt) (z : Pt) (hn : v.length < 4611686018427387904) : CallsF Try.prog 77 [pts v, pt z] [] (.int .i64 (fiP v z)) [] := by
  refine callsF_cwx hm hf77 (by simp [cf77]) ?_
  simp only [cf77, argsAl]
  repeat' first
    | (refine hK _ _ _ (by first | exact fun h => Bool.noConfusion h | exact fun _ => rfl) ?_; clear hK K)
    | (refine CWx.r fun K hK => ?_; simp (maxSteps := 4000000) (disch := omega) only [dr0, dr1, dr2, dr3, dr4, if_true, if_false, Option.some.injEq, Nat.reduceEqDiff, Int.reduceToNat, Nat.reduceSub, Nat.reduceAdd, Nat.reduceMul, Nat.reduceLT, Nat.reduceLeDiff, reduceCtorEq, ↓reduceIte, catT, enc0, enc1, if_pos, if_neg])
    | refine CWx.go ?_
    | (refine gX_split (fun hb => ?_) (fun hb => ?_) <;> (try simp only [hb]) <;> (try simp only [bset0, reduceCtorEq] at hb) <;> simp (maxSteps := 4000000) (disch := omega) only [dr0, dr1, dr2, dr3, dr4, if_true, if_false, Option.some.injEq, Nat.reduceEqDiff, Int.reduceToNat, Nat.reduceSub, Nat.reduceAdd, Nat.reduceMul, Nat.reduceLT, Nat.reduceLeDiff, reduceCtorEq, ↓reduceIte, catT, enc0, enc1, if_pos, if_neg])
    | (refine CWx.br rfl (fun hb => ?_) (fun hb => ?_) <;> first | exact Bool.noConfusion hb | (first | (simp only [bset0, reduceCtorEq] at hb; done) | ((try simp only [bset0, reduceCtorEq] at hb); first | contradiction | skip)))
    | (refine CWx.e fun K hK => ?_; simp (maxSteps := 4000000) (disch := omega) only [dr0, dr1, dr2, dr3, dr4, if_true, if_false, Option.some.injEq, Nat.reduceEqDiff, Int.reduceToNat, Nat.reduceSub, Nat.reduceAdd, Nat.reduceMul, Nat.reduceLT, Nat.reduceLeDiff, reduceCtorEq, ↓reduceIte, catT, enc0, enc1, if_pos, if_neg])
    | (refine CWx.block (id := 0) ?_; refine CWx.loopK (ι := Nat) [0, 3, 7] (fun i => v.length - i) (fun i => [(8, .int .i64 (i : Int))]) (fun i => [.row false 0 false 2 [pt z]]) (fun i => i ≤ v.length ∧ ∀ j, j < i → z ≠ P v j) (fun i => by simp only [keepA, Am.get, List.cons_append, List.nil_append, Nat.reduceEqDiff, ↓reduceIte]; exact rfl) (0) ?_ ?_ (fun i hi => ?_); (focus ((try dsimp only) <;> (first | trivial | omega | (refine ⟨?_, ?_⟩ <;> first | omega | trivial | simp_all) | simp_all); done)); (focus (refine Fgt.mk' 1 (by simp) ?_ ?_ ?_ <;> simp [-List.map_take, -List.map_map, AV.isY, ltL_append, ix_nil, keepB, Am.get, AV.lt, ltL, lt_pts, lt_pt, lt_ixV, ltL_ix, ltL_pt, Blk.lt, ltB]; done)); have Hi := hi; (skip))
    | refine CWx.seq ?_
    | refine CWx.block (id := 1) ?_
    | refine CWx.skip ?_
    | refine CWx.exit ?_
    | (refine CWx.ret fun al hal => finK_ext hal (finK_pure (.inr rfl) (by simp only [resRV, Am.get, Nat.reduceEqDiff, ↓reduceIte]; exact rfl) ?_ ?_); (focus (first | ((simp only [tupAV]; rw [fiP_at (i := i) (by omega) (by assumption) hi.2]); done) | ((simp only [tupAV]; rw [fiP_no (fun j hj => hi.2 j (by omega))]); done) | (rfl; done) | ((simp only [tupAV]; congr <;> omega); done) | (simp [tupAV, *]; done))); (focus (first | rfl | (simp [AV.allR, allRL, allRL_ix]; done))))
    | (intro al hal; refine ⟨i + 1, ?_, ?_, Fgt.ofx hal ?_⟩; (focus (first | omega | (dsimp only; omega))); (focus (exact ⟨by omega, allUp hi.2 (by assumption)⟩; done)); (focus (refine Fgt.mk' 1 (by simp) ?_ ?_ ?_ <;> simp [-List.map_take, -List.map_map, AV.isY, ltL_append, ix_nil, keepB, Am.get, AV.lt, ltL, lt_pts, lt_pt, lt_ixV, ltL_ix, ltL_pt, Blk.lt, ltB]; done)))
theorem c41 (v : List Nat) (z : Int) (hn : v.length < 4611686018427387904) (hz : z ∈ v.map (fun x : Nat => (x : Int))) : CallsF Try.prog 41 [ixV v, .int .i64 z] [] (.bool true) [] := by
  have h0 : 0 ≤ fiN v z := by rw [fiN, if_pos hz]; omega
  refine callsF_cwx hm hf41 (by simp [cf41]) ?_
  simp only [cf41, argsAl]
  repeat' first
    | (refine hK _ _ _ (by first | exact fun h => Bool.noConfusion h | exact fun _ => rfl) ?_; clear hK K)
    | (refine CWx.r fun K hK => ?_; simp (maxSteps := 4000000) (disch := omega) only [dr0, dr1, dr2, dr3, dr4, if_true, if_false, Option.some.injEq, Nat.reduceEqDiff, Int.reduceToNat, Nat.reduceSub, Nat.reduceAdd, Nat.reduceMul, Nat.reduceLT, Nat.reduceLeDiff, reduceCtorEq, ↓reduceIte, catT, enc0, enc1, if_pos, if_neg])
    | refine CWx.go ?_
    | (apply RCx.view (fid := 76) (caps := []) rfl rfl; (focus ((simp only [evsA, evA_t, evA_c, Am.get, Nat.reduceEqDiff, ↓reduceIte, List.nil_append, List.cons_append, List.append_nil]; repeat' first | exact viewArgs_nil | apply viewArgs_cons | exact viewG_flat (flat_pts _ _) _ | exact viewG_flat (flat_ixV _ _) _ | exact viewG_flat (flat_sv _ _) _ | exact viewG_ixT rfl (by assumption) (by omega) | exact viewG_ptsL rfl (by first | omega | (simp; done) | (simp; omega)) | exact viewG_ix rfl (by first | omega | (simp; omega)) | exact viewG_flat rfl _; done))); (focus (refine c76 v z hn <;> first | omega | assumption)); (focus rfl); simp (maxSteps := 4000000) (disch := omega) only [dr0, dr1, dr2, dr3, dr4, if_true, if_false, Option.some.injEq, Nat.reduceEqDiff, Int.reduceToNat, Nat.reduceSub, Nat.reduceAdd, Nat.reduceMul, Nat.reduceLT, Nat.reduceLeDiff, reduceCtorEq, ↓reduceIte, catT, enc0, enc1, if_pos, if_neg])
    | (refine gX_split (fun hb => ?_) (fun hb => ?_) <;> (try simp only [hb]) <;> (try simp only [bset0, reduceCtorEq] at hb) <;> simp (maxSteps := 4000000) (disch := omega) only [dr0, dr1, dr2, dr3, dr4, if_true, if_false, Option.some.injEq, Nat.reduceEqDiff, Int.reduceToNat, Nat.reduceSub, Nat.reduceAdd, Nat.reduceMul, Nat.reduceLT, Nat.reduceLeDiff, reduceCtorEq, ↓reduceIte, catT, enc0, enc1, if_pos, if_neg])
    | (refine CWx.br rfl (fun hb => ?_) (fun hb => ?_) <;> first | exact Bool.noConfusion hb | (first | (simp only [bset0, reduceCtorEq] at hb; done) | ((try simp only [bset0, reduceCtorEq] at hb); first | contradiction | skip)))
    | (refine CWx.e fun K hK => ?_; simp (maxSteps := 4000000) (disch := omega) only [dr0, dr1, dr2, dr3, dr4, if_true, if_false, Option.some.injEq, Nat.reduceEqDiff, Int.reduceToNat, Nat.reduceSub, Nat.reduceAdd, Nat.reduceMul, Nat.reduceLT, Nat.reduceLeDiff, reduceCtorEq, ↓reduceIte, catT, enc0, enc1, if_pos, if_neg])
    | refine CWx.seq ?_
    | refine CWx.skip ?_
    | refine CWx.exit ?_
    | (refine CWx.ret fun al hal => finK_ext hal (finK_pure (.inr rfl) (by simp only [resRV, Am.get, Nat.reduceEqDiff, ↓reduceIte]; exact rfl) ?_ ?_); (focus (first | ((simp only [tupAV]; rw [decide_eq_true h0]); done) | (rfl; done) | ((simp only [tupAV]; congr <;> omega); done) | (simp [tupAV, *]; done))); (focus (first | rfl | (simp [AV.allR, allRL, allRL_ix]; done))))
theorem c43 (v : List Pt) (z : Pt) (hn : v.length < 4611686018427387904) (hz : z ∈ v) : CallsF Try.prog 43 [pts v, pt z] [] (.bool true) [] := by
  have h0 : 0 ≤ fiP v z := by rw [fiP, if_pos hz]; omega
  refine callsF_cwx hm hf43 (by simp [cf43]) ?_
  simp only [cf43, argsAl]
  repeat' first
    | (refine hK _ _ _ (by first | exact fun h => Bool.noConfusion h | exact fun _ => rfl) ?_; clear hK K)
    | (refine CWx.r fun K hK => ?_; simp (maxSteps := 4000000) (disch := omega) only [dr0, dr1, dr2, dr3, dr4, if_true, if_false, Option.some.injEq, Nat.reduceEqDiff, Int.reduceToNat, Nat.reduceSub, Nat.reduceAdd, Nat.reduceMul, Nat.reduceLT, Nat.reduceLeDiff, reduceCtorEq, ↓reduceIte, catT, enc0, enc1, if_pos, if_neg])
    | refine CWx.go ?_
    | (apply RCx.view (fid := 77) (caps := []) rfl rfl; (focus ((simp only [evsA, evA_t, evA_c, Am.get, Nat.reduceEqDiff, ↓reduceIte, List.nil_append, List.cons_append, List.append_nil]; repeat' first | exact viewArgs_nil | apply viewArgs_cons | exact viewG_flat (flat_pts _ _) _ | exact viewG_flat (flat_ixV _ _) _ | exact viewG_flat (flat_sv _ _) _ | exact viewG_ixT rfl (by assumption) (by omega) | exact viewG_ptsL rfl (by first | omega | (simp; done) | (simp; omega)) | exact viewG_ix rfl (by first | omega | (simp; omega)) | exact viewG_flat rfl _; done))); (focus (refine c77 v z hn <;> first | omega | assumption)); (focus rfl); simp (maxSteps := 4000000) (disch := omega) only [dr0, dr1, dr2, dr3, dr4, if_true, if_false, Option.some.injEq, Nat.reduceEqDiff, Int.reduceToNat, Nat.reduceSub, Nat.reduceAdd, Nat.reduceMul, Nat.reduceLT, Nat.reduceLeDiff, reduceCtorEq, ↓reduceIte, catT, enc0, enc1, if_pos, if_neg])
    | (refine gX_split (fun hb => ?_) (fun hb => ?_) <;> (try simp only [hb]) <;> (try simp only [bset0, reduceCtorEq] at hb) <;> simp (maxSteps := 4000000) (disch := omega) only [dr0, dr1, dr2, dr3, dr4, if_true, if_false, Option.some.injEq, Nat.reduceEqDiff, Int.reduceToNat, Nat.reduceSub, Nat.reduceAdd, Nat.reduceMul, Nat.reduceLT, Nat.reduceLeDiff, reduceCtorEq, ↓reduceIte, catT, enc0, enc1, if_pos, if_neg])
    | (refine CWx.br rfl (fun hb => ?_) (fun hb => ?_) <;> first | exact Bool.noConfusion hb | (first | (simp only [bset0, reduceCtorEq] at hb; done) | ((try simp only [bset0, reduceCtorEq] at hb); first | contradiction | skip)))
    | (refine CWx.e fun K hK => ?_; simp (maxSteps := 4000000) (disch := omega) only [dr0, dr1, dr2, dr3, dr4, if_true, if_false, Option.some.injEq, Nat.reduceEqDiff, Int.reduceToNat, Nat.reduceSub, Nat.reduceAdd, Nat.reduceMul, Nat.reduceLT, Nat.reduceLeDiff, reduceCtorEq, ↓reduceIte, catT, enc0, enc1, if_pos, if_neg])
    | refine CWx.seq ?_
    | refine CWx.skip ?_
    | refine CWx.exit ?_
    | (refine CWx.ret fun al hal => finK_ext hal (finK_pure (.inr rfl) (by simp only [resRV, Am.get, Nat.reduceEqDiff, ↓reduceIte]; exact rfl) ?_ ?_); (focus (first | ((simp only [tupAV]; rw [decide_eq_true h0]); done) | (rfl; done) | ((simp only [tupAV]; congr <;> omega); done) | (simp [tupAV, *]; done))); (focus (first | rfl | (simp [AV.allR, allRL, allRL_ix]; done))))
end Go.Hull
end
