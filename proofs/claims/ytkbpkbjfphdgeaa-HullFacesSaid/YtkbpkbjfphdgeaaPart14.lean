/- Sorting a list of indices: walks.
   Conditions: no more than eight of them. -/
import Derived.Test.YtkbpkbjfphdgeaaPart13
section
set_option linter.unusedSimpArgs false
set_option linter.unusedVariables false
set_option maxHeartbeats 8000000
set_option maxRecDepth 100000
namespace Go.Hull
open Go Go.Am Go.Proofs

def ltN (a b : Nat) : Bool := decide (a < b)
theorem c122 (x y : Nat) : CallsF Try.prog 122 [.int .i64 (x : Int), .int .i64 (y : Int)] [] (.bool (decide (x < y))) [] := by
  refine callsF_cwx hm hf122 (by simp [cf122]) ?_
  simp only [cf122, argsAl]
  repeat' first
    | (refine hK _ _ _ (by first | exact fun h => Bool.noConfusion h | exact fun _ => rfl) ?_; clear hK K)
    | (refine CWx.r fun K hK => ?_; simp (maxSteps := 4000000) (disch := omega) only [dr0, dr1, dr2, dr3, dr4, if_true, if_false, Option.some.injEq, Nat.reduceEqDiff, Int.reduceToNat, Nat.reduceSub, Nat.reduceAdd, Nat.reduceMul, Nat.reduceLT, Nat.reduceLeDiff, reduceCtorEq, ↓reduceIte, catT, enc0, enc1, if_pos, if_neg])
    | refine CWx.go ?_
    | (apply RCx.view (fid := 115) (caps := []) rfl rfl; (focus ((simp only [evsA, evA_t, evA_c, Am.get, Nat.reduceEqDiff, ↓reduceIte, List.nil_append, List.cons_append, List.append_nil]; repeat' first | exact viewArgs_nil | apply viewArgs_cons | exact viewG_flat (flat_pts _ _) _ | exact viewG_flat (flat_ixV _ _) _ | exact viewG_flat (flat_sv _ _) _ | exact viewG_ixT rfl (by assumption) (by omega) | exact viewG_ptsL rfl (by first | omega | (simp; done) | (simp; omega)) | exact viewG_ix rfl (by first | omega | (simp; omega)) | exact viewG_flat rfl _; done))); (focus (refine c115 x <;> first | omega | assumption)); (focus rfl); simp (maxSteps := 4000000) (disch := omega) only [dr0, dr1, dr2, dr3, dr4, if_true, if_false, Option.some.injEq, Nat.reduceEqDiff, Int.reduceToNat, Nat.reduceSub, Nat.reduceAdd, Nat.reduceMul, Nat.reduceLT, Nat.reduceLeDiff, reduceCtorEq, ↓reduceIte, catT, enc0, enc1, if_pos, if_neg])
    | (apply RCx.view (fid := 115) (caps := []) rfl rfl; (focus ((simp only [evsA, evA_t, evA_c, Am.get, Nat.reduceEqDiff, ↓reduceIte, List.nil_append, List.cons_append, List.append_nil]; repeat' first | exact viewArgs_nil | apply viewArgs_cons | exact viewG_flat (flat_pts _ _) _ | exact viewG_flat (flat_ixV _ _) _ | exact viewG_flat (flat_sv _ _) _ | exact viewG_ixT rfl (by assumption) (by omega) | exact viewG_ptsL rfl (by first | omega | (simp; done) | (simp; omega)) | exact viewG_ix rfl (by first | omega | (simp; omega)) | exact viewG_flat rfl _; done))); (focus (refine c115 y <;> first | omega | assumption)); (focus rfl); simp (maxSteps := 4000000) (disch := omega) only [dr0, dr1, dr2, dr3, dr4, if_true, if_false, Option.some.injEq, Nat.reduceEqDiff, Int.reduceToNat, Nat.reduceSub, Nat.reduceAdd, Nat.reduceMul, Nat.reduceLT, Nat.reduceLeDiff, reduceCtorEq, ↓reduceIte, catT, enc0, enc1, if_pos, if_neg])
    | (refine gX_split (fun hb => ?_) (fun hb => ?_) <;> (try simp only [hb]) <;> (try simp only [bset0, reduceCtorEq] at hb) <;> first | omega | simp (maxSteps := 4000000) (disch := omega) only [dr0, dr1, dr2, dr3, dr4, if_true, if_false, Option.some.injEq, Nat.reduceEqDiff, Int.reduceToNat, Nat.reduceSub, Nat.reduceAdd, Nat.reduceMul, Nat.reduceLT, Nat.reduceLeDiff, reduceCtorEq, ↓reduceIte, catT, enc0, enc1, if_pos, if_neg])
    | (refine CWx.br rfl (fun hb => ?_) (fun hb => ?_) <;> first | exact Bool.noConfusion hb | (first | (simp only [bset0, reduceCtorEq] at hb; done) | ((try simp only [bset0, reduceCtorEq] at hb); first | omega | skip)))
    | (refine CWx.e fun K hK => ?_; simp (maxSteps := 4000000) (disch := omega) only [dr0, dr1, dr2, dr3, dr4, if_true, if_false, Option.some.injEq, Nat.reduceEqDiff, Int.reduceToNat, Nat.reduceSub, Nat.reduceAdd, Nat.reduceMul, Nat.reduceLT, Nat.reduceLeDiff, reduceCtorEq, ↓reduceIte, catT, enc0, enc1, if_pos, if_neg])
    | refine CWx.seq ?_
    | refine CWx.skip ?_
    | refine CWx.exit ?_
    | (refine CWx.ret fun al hal => finK_ext hal (finK_pure (.inr rfl) (by simp only [resRV, Am.get, Nat.reduceEqDiff, ↓reduceIte]; exact rfl) ?_ ?_); (focus (first | ((simp only [tupAV]; congr 1; rw [decide_eq_decide]; omega); done) | (rfl; done) | ((simp only [tupAV]; congr <;> omega); done) | (simp [tupAV, *]; done))); (focus (first | rfl | (simp [AV.allR, allRL, allRL_ix]; done))))
theorem c116 (g : Nat) (xs : List Nat) (hn : xs.length < 100000) : CallsF Try.prog 116 [.sl 0 g 0 xs.length, .int .i64 0, .int .i64 (xs.length : Int)] [.row false g false 1 (ix xs)] (.tup []) [.row false g false 1 (ix (insort ltN xs))] := by
  refine callsF_cwx hm hf116 (by simp [cf116]) ?_
  simp only [cf116, argsAl]
  repeat' first
    | (refine hK _ _ _ (by first | exact fun h => Bool.noConfusion h | exact fun _ => rfl) ?_; clear hK K)
    | (refine CWx.r fun K hK => ?_; simp (maxSteps := 4000000) (disch := omega) only [dr0, dr1, dr2, dr3, dr4, if_true, if_false, Option.some.injEq, Nat.reduceEqDiff, Int.reduceToNat, Nat.reduceSub, Nat.reduceAdd, Nat.reduceMul, Nat.reduceLT, Nat.reduceLeDiff, reduceCtorEq, ↓reduceIte, catT, enc0, enc1, if_pos, if_neg, ix_set, ixgS])
    | refine CWx.go ?_
    | (apply RCx.view (fid := 122) (caps := []) rfl rfl; (focus ((simp only [evsA, evA_t, evA_c, Am.get, Nat.reduceEqDiff, ↓reduceIte, List.nil_append, List.cons_append, List.append_nil]; repeat' first | exact viewArgs_nil | apply viewArgs_cons | exact viewG_flat (flat_pts _ _) _ | exact viewG_flat (flat_ixV _ _) _ | exact viewG_flat (flat_sv _ _) _ | exact viewG_ixT rfl (by assumption) (by omega) | exact viewG_ptsL rfl (by first | omega | (simp; done) | (simp; omega)) | exact viewG_ix rfl (by first | omega | (simp; omega)) | exact viewG_flat rfl _; done))); (focus (refine c122 _ _ <;> first | omega | assumption)); (focus rfl); simp (maxSteps := 4000000) (disch := omega) only [dr0, dr1, dr2, dr3, dr4, if_true, if_false, Option.some.injEq, Nat.reduceEqDiff, Int.reduceToNat, Nat.reduceSub, Nat.reduceAdd, Nat.reduceMul, Nat.reduceLT, Nat.reduceLeDiff, reduceCtorEq, ↓reduceIte, catT, enc0, enc1, if_pos, if_neg, ix_set, ixgS])
    | (refine gX_split (fun hb => ?_) (fun hb => ?_) <;> (try simp only [hb]) <;> (try simp only [bset0, reduceCtorEq] at hb) <;> first | omega | simp (maxSteps := 4000000) (disch := omega) only [dr0, dr1, dr2, dr3, dr4, if_true, if_false, Option.some.injEq, Nat.reduceEqDiff, Int.reduceToNat, Nat.reduceSub, Nat.reduceAdd, Nat.reduceMul, Nat.reduceLT, Nat.reduceLeDiff, reduceCtorEq, ↓reduceIte, catT, enc0, enc1, if_pos, if_neg, ix_set, ixgS])
    | (refine CWx.br rfl (fun hb => ?_) (fun hb => ?_) <;> first | exact Bool.noConfusion hb | (first | (simp only [bset0, reduceCtorEq] at hb; done) | ((try simp only [bset0, reduceCtorEq] at hb); first | omega | skip)))
    | (refine CWx.e fun K hK => ?_; simp (maxSteps := 4000000) (disch := omega) only [dr0, dr1, dr2, dr3, dr4, if_true, if_false, Option.some.injEq, Nat.reduceEqDiff, Int.reduceToNat, Nat.reduceSub, Nat.reduceAdd, Nat.reduceMul, Nat.reduceLT, Nat.reduceLeDiff, reduceCtorEq, ↓reduceIte, catT, enc0, enc1, if_pos, if_neg, ix_set, ixgS])
    | (refine CWx.block (id := 0) ?_; refine CWx.loopK (ι := Nat × List Nat) [0, 1, 2] (fun q => xs.length - q.1) (fun q => [(6, .int .i64 (q.1 : Int))]) (fun q => [.row false g false 1 (ix q.2)]) (fun q => (1 ≤ q.1 ∧ (q.1 ≤ xs.length ∨ q.1 = 1) ∧ q.2.length = xs.length) ∧ outer ltN (xs.length - q.1) q.1 q.2 = insort ltN xs) (fun i => by simp only [keepA, Am.get, List.cons_append, List.nil_append, Nat.reduceEqDiff, ↓reduceIte]; exact rfl) ((1, xs)) ?_ ?_ (fun q hi => ?_); (focus (exact ⟨⟨Nat.le_refl _, .inr rfl, rfl⟩, rfl⟩; done)); (focus (refine Fgt.mk' 1 (by simp) ?_ ?_ ?_ <;> simp [-List.map_take, -List.map_map, AV.isY, ltL_append, ix_nil, keepB, Am.get, AV.lt, ltL, lt_pts, lt_pt, lt_ixV, ltL_ix, ltL_pt, Blk.lt, ltB]; done)); have Hq := hi; ((obtain ⟨⟨hq1, hq2, hq3⟩, hq4⟩ := hi)))
    | (refine CWx.block (id := 2) ?_; refine CWx.loopK (ι := Nat × List Nat) [0, 1, 2, 6] (fun r => r.1) (fun r => [(7, .int .i64 (r.1 : Int))]) (fun r => [.row false g false 1 (ix r.2)]) (fun r => (r.1 ≤ q.1 ∧ r.2.length = xs.length) ∧ inner ltN r.1 r.2 = inner ltN q.1 q.2) (fun i => by simp only [keepA, Am.get, List.cons_append, List.nil_append, Nat.reduceEqDiff, ↓reduceIte]; exact rfl) ((q.1, q.2)) ?_ ?_ (fun r hi => ?_); (focus (exact ⟨⟨Nat.le_refl _, by assumption⟩, rfl⟩; done)); (focus (refine Fgt.mk' 1 (by simp) ?_ ?_ ?_ <;> simp [-List.map_take, -List.map_map, AV.isY, ltL_append, ix_nil, keepB, Am.get, AV.lt, ltL, lt_pts, lt_pt, lt_ixV, ltL_ix, ltL_pt, Blk.lt, ltB]; done)); have Hr := hi; ((obtain ⟨⟨hr1, hr2⟩, hr3⟩ := hi)))
    | refine CWx.seq ?_
    | refine CWx.block (id := 1) ?_
    | refine CWx.block (id := 3) ?_
    | refine CWx.skip ?_
    | (refine CWx.exit (id := 2) ?_; (have er : r.2 = inner ltN q.1 q.2 := by rw [← hr3]; exact (inner_f ltN (by first | exact .inl (by omega) | exact .inr (by unfold ltN; exact decide_eq_false (by omega)))).symm))
    | (refine CWx.exit (id := 0) ?_; (have eq : q.2 = insort ltN xs := by rw [← hq4, show xs.length - q.1 = 0 by omega]; rfl); simp only [eq])
    | refine CWx.exit ?_
    | (refine CWx.ret fun al hal => finK_ext hal (finK_pure (.inr rfl) (by simp only [resRV, Am.get, Nat.reduceEqDiff, ↓reduceIte]; exact rfl) ?_ ?_); (focus (first | (rfl; done) | ((simp only [tupAV]; congr <;> omega); done) | (simp [tupAV, *]; done))); (focus (first | rfl | (simp [AV.allR, allRL, allRL_ix]; done))))
    | (intro al hal; refine ⟨(r.1 - 1, swp r.1 r.2), ?_, ?_, Fgt.ofx hal ?_⟩; (focus (first | omega | (dsimp only; omega))); (focus (exact ⟨⟨by dsimp only; omega, by dsimp only; rw [swp_length]; omega⟩, by dsimp only; rw [← inner_t ltN (by omega) (by unfold ltN; exact decide_eq_true (by omega))]; exact hr3⟩; done)); (focus (refine Fgt.mk' 1 (by simp) ?_ ?_ ?_ <;> simp [-List.map_take, -List.map_map, AV.isY, ltL_append, ix_nil, keepB, Am.get, AV.lt, ltL, lt_pts, lt_pt, lt_ixV, ltL_ix, ltL_pt, Blk.lt, ltB, swp]; done)))
    | (intro al hal; refine ⟨(q.1 + 1, r.2), ?_, ?_, Fgt.ofx hal ?_⟩; (focus (first | omega | (dsimp only; omega))); (focus (exact ⟨⟨by dsimp only; omega, by dsimp only; omega, by dsimp only; omega⟩, by dsimp only; rw [← hq4, er, show xs.length - q.1 = (xs.length - (q.1 + 1)) + 1 by omega]; rfl⟩; done)); (focus (refine Fgt.mk' 1 (by simp) ?_ ?_ ?_ <;> simp [-List.map_take, -List.map_map, AV.isY, ltL_append, ix_nil, keepB, Am.get, AV.lt, ltL, lt_pts, lt_pt, lt_ixV, ltL_ix, ltL_pt, Blk.lt, ltB]; done)))
    | (intro al hal; exact finK_ext hal (finK_keep (.inl rfl) (xs := []) rfl rfl rfl (by simp) rfl (fun b hb => by rw [List.mem_singleton.1 hb]; simp only [Blk.allR, allRL_ix])))
theorem c109 (g : Nat) (xs : List Nat) (k : Int) (hn : xs.length ≤ 8) : CallsF Try.prog 109 [.sl 0 g 0 xs.length, .int .i64 0, .int .i64 (xs.length : Int), .int .i64 k] [.row false g false 1 (ix xs)] (.tup []) [.row false g false 1 (ix (insort ltN xs))] := by
  refine callsF_cwx hm hf109 (by simp [cf109]) ?_
  simp only [cf109, argsAl]
  repeat' first
    | (refine hK _ _ _ (by first | exact fun h => Bool.noConfusion h | exact fun _ => rfl) ?_; clear hK K)
    | (refine CWx.r fun K hK => ?_; simp (maxSteps := 4000000) (disch := omega) only [dr0, dr1, dr2, dr3, dr4, if_true, if_false, Option.some.injEq, Nat.reduceEqDiff, Int.reduceToNat, Nat.reduceSub, Nat.reduceAdd, Nat.reduceMul, Nat.reduceLT, Nat.reduceLeDiff, reduceCtorEq, ↓reduceIte, catT, enc0, enc1, if_pos, if_neg])
    | refine CWx.go ?_
    | (refine RCx.one (fid := 116) (caps := []) rfl rfl (b := 0) (.cons (.row g 0 xs.length) (.cons (.flat rfl) (.cons (.flat rfl) .nil))) (c116 g xs (by omega)) (by simp) rfl (by simp only [Blk.lt, ltL_ix]) rfl (by simp only [Blk.lt, ltL_ix]) (by simp only [Blk.clean, cleanL_ix]) ?_; simp (maxSteps := 4000000) (disch := omega) only [dr0, dr1, dr2, dr3, dr4, if_true, if_false, Option.some.injEq, Nat.reduceEqDiff, Int.reduceToNat, Nat.reduceSub, Nat.reduceAdd, Nat.reduceMul, Nat.reduceLT, Nat.reduceLeDiff, reduceCtorEq, ↓reduceIte, catT, enc0, enc1, if_pos, if_neg])
    | (refine gX_split (fun hb => ?_) (fun hb => ?_) <;> (try simp only [hb]) <;> (try simp only [bset0, reduceCtorEq] at hb) <;> first | omega | simp (maxSteps := 4000000) (disch := omega) only [dr0, dr1, dr2, dr3, dr4, if_true, if_false, Option.some.injEq, Nat.reduceEqDiff, Int.reduceToNat, Nat.reduceSub, Nat.reduceAdd, Nat.reduceMul, Nat.reduceLT, Nat.reduceLeDiff, reduceCtorEq, ↓reduceIte, catT, enc0, enc1, if_pos, if_neg])
    | (refine CWx.br rfl (fun hb => ?_) (fun hb => ?_) <;> first | exact Bool.noConfusion hb | (first | (simp only [bset0, reduceCtorEq] at hb; done) | ((try simp only [bset0, reduceCtorEq] at hb); first | omega | skip)))
    | (refine CWx.e fun K hK => ?_; simp (maxSteps := 4000000) (disch := omega) only [dr0, dr1, dr2, dr3, dr4, if_true, if_false, Option.some.injEq, Nat.reduceEqDiff, Int.reduceToNat, Nat.reduceSub, Nat.reduceAdd, Nat.reduceMul, Nat.reduceLT, Nat.reduceLeDiff, reduceCtorEq, ↓reduceIte, catT, enc0, enc1, if_pos, if_neg])
    | (refine CWx.block (id := 0) ?_; refine CWx.loopK (ι := Nat) [0, 1, 2, 3, 8, 9] (fun u => 0) (fun u => []) (fun u => [.row false g false 1 (ix xs)]) (fun u => True) (fun i => by simp only [keepA, Am.get, List.cons_append, List.nil_append, Nat.reduceEqDiff, ↓reduceIte]; exact rfl) (0) ?_ ?_ (fun u hi => ?_); (focus ((try dsimp only) <;> (first | trivial | omega | (refine ⟨?_, ?_⟩ <;> first | omega | trivial | simp_all) | simp_all); done)); (focus (refine Fgt.mk' 1 (by simp) ?_ ?_ ?_ <;> simp [-List.map_take, -List.map_map, AV.isY, ltL_append, ix_nil, keepB, Am.get, AV.lt, ltL, lt_pts, lt_pt, lt_ixV, ltL_ix, ltL_pt, Blk.lt, ltB]; done)); have Hu := hi; (skip))
    | refine CWx.seq ?_
    | refine CWx.block (id := 1) ?_
    | refine CWx.skip ?_
    | refine CWx.exit ?_
    | (refine CWx.ret fun al hal => finK_ext hal (finK_pure (.inr rfl) (by simp only [resRV, Am.get, Nat.reduceEqDiff, ↓reduceIte]; exact rfl) ?_ ?_); (focus (first | (rfl; done) | ((simp only [tupAV]; congr <;> omega); done) | (simp [tupAV, *]; done))); (focus (first | rfl | (simp [AV.allR, allRL, allRL_ix]; done))))
    | (refine CWx.ret fun al hal => finK_ext hal (finK_keep (.inr rfl) (xs := []) rfl rfl rfl (by simp) rfl (fun b hb => by rw [List.mem_singleton.1 hb]; simp only [Blk.allR, allRL_ix])))
def blen : Nat → Int
  | 0 => 0 | 1 => 1 | 2 => 2 | 3 => 2 | 4 => 3 | 5 => 3 | 6 => 3 | 7 => 3 | _ => 4
theorem c110 (n : Nat) (h : n ≤ 8) : CallsF Try.prog 110 [.int .u64 (n : Int)] [] (.int .i64 (blen n)) [] := by
  have z : ∀ k : Nat, k = 0 ∨ k = 1 ∨ k = 2 ∨ k = 3 ∨ k = 4 ∨ k = 5 ∨ k = 6 ∨ k = 7 ∨ k = 8 ∨ 8 < k := by omega
  rcases z n with rfl | rfl | rfl | rfl | rfl | rfl | rfl | rfl | rfl | h'
  · exact xFm_sound hm tOk Aw.ok0 20 _ _ _ _ _ (by kernel_rfl : xFm Aw.nm T Aw.ms0 1000 20 110 [.int .u64 0] [] = some (.int .i64 0, []))
  · exact xFm_sound hm tOk Aw.ok0 20 _ _ _ _ _ (by kernel_rfl : xFm Aw.nm T Aw.ms0 1000 20 110 [.int .u64 1] [] = some (.int .i64 1, []))
  · exact xFm_sound hm tOk Aw.ok0 20 _ _ _ _ _ (by kernel_rfl : xFm Aw.nm T Aw.ms0 1000 20 110 [.int .u64 2] [] = some (.int .i64 2, []))
  · exact xFm_sound hm tOk Aw.ok0 20 _ _ _ _ _ (by kernel_rfl : xFm Aw.nm T Aw.ms0 1000 20 110 [.int .u64 3] [] = some (.int .i64 2, []))
  · exact xFm_sound hm tOk Aw.ok0 20 _ _ _ _ _ (by kernel_rfl : xFm Aw.nm T Aw.ms0 1000 20 110 [.int .u64 4] [] = some (.int .i64 3, []))
  · exact xFm_sound hm tOk Aw.ok0 20 _ _ _ _ _ (by kernel_rfl : xFm Aw.nm T Aw.ms0 1000 20 110 [.int .u64 5] [] = some (.int .i64 3, []))
  · exact xFm_sound hm tOk Aw.ok0 20 _ _ _ _ _ (by kernel_rfl : xFm Aw.nm T Aw.ms0 1000 20 110 [.int .u64 6] [] = some (.int .i64 3, []))
  · exact xFm_sound hm tOk Aw.ok0 20 _ _ _ _ _ (by kernel_rfl : xFm Aw.nm T Aw.ms0 1000 20 110 [.int .u64 7] [] = some (.int .i64 3, []))
  · exact xFm_sound hm tOk Aw.ok0 20 _ _ _ _ _ (by kernel_rfl : xFm Aw.nm T Aw.ms0 1000 20 110 [.int .u64 8] [] = some (.int .i64 4, []))
  · omega
theorem c93 (g : Nat) (xs : List Nat) (hn : xs.length ≤ 8) : CallsF Try.prog 93 [.sl 0 g 0 xs.length] [.row false g false 1 (ix xs)] (.tup []) [.row false g false 1 (ix (insort ltN xs))] := by
  have hw : IntKind.u64.wrap (xs.length : Int) = (xs.length : Int) := IntWalk.u64_in _ ⟨by omega, by omega⟩
  refine callsF_cwx hm hf93 (by simp [cf93]) ?_
  simp only [cf93, argsAl]
  repeat' first
    | (refine hK _ _ _ (by first | exact fun h => Bool.noConfusion h | exact fun _ => rfl) ?_; clear hK K)
    | (refine CWx.r fun K hK => ?_; simp (maxSteps := 4000000) (disch := omega) only [dr0, dr1, dr2, dr3, dr4, if_true, if_false, Option.some.injEq, Nat.reduceEqDiff, Int.reduceToNat, Nat.reduceSub, Nat.reduceAdd, Nat.reduceMul, Nat.reduceLT, Nat.reduceLeDiff, reduceCtorEq, ↓reduceIte, catT, enc0, enc1, if_pos, if_neg, hw])
    | refine CWx.go ?_
    | (apply RCx.view (fid := 110) (caps := []) rfl rfl; (focus ((simp only [evsA, evA_t, evA_c, Am.get, Nat.reduceEqDiff, ↓reduceIte, List.nil_append, List.cons_append, List.append_nil]; repeat' first | exact viewArgs_nil | apply viewArgs_cons | exact viewG_flat (flat_pts _ _) _ | exact viewG_flat (flat_ixV _ _) _ | exact viewG_flat (flat_sv _ _) _ | exact viewG_ixT rfl (by assumption) (by omega) | exact viewG_ptsL rfl (by first | omega | (simp; done) | (simp; omega)) | exact viewG_ix rfl (by first | omega | (simp; omega)) | exact viewG_flat rfl _; done))); (focus (refine c110 xs.length hn <;> first | omega | assumption)); (focus rfl); simp (maxSteps := 4000000) (disch := omega) only [dr0, dr1, dr2, dr3, dr4, if_true, if_false, Option.some.injEq, Nat.reduceEqDiff, Int.reduceToNat, Nat.reduceSub, Nat.reduceAdd, Nat.reduceMul, Nat.reduceLT, Nat.reduceLeDiff, reduceCtorEq, ↓reduceIte, catT, enc0, enc1, if_pos, if_neg, hw])
    | (refine RCx.one (fid := 109) (caps := []) rfl rfl (b := 0) (.cons (.row g 0 xs.length) (.cons (.flat rfl) (.cons (.flat rfl) (.cons (.flat rfl) .nil)))) (c109 g xs _ hn) (by simp) rfl (by simp only [Blk.lt, ltL_ix]) rfl (by simp only [Blk.lt, ltL_ix]) (by simp only [Blk.clean, cleanL_ix]) ?_; simp (maxSteps := 4000000) (disch := omega) only [dr0, dr1, dr2, dr3, dr4, if_true, if_false, Option.some.injEq, Nat.reduceEqDiff, Int.reduceToNat, Nat.reduceSub, Nat.reduceAdd, Nat.reduceMul, Nat.reduceLT, Nat.reduceLeDiff, reduceCtorEq, ↓reduceIte, catT, enc0, enc1, if_pos, if_neg, hw])
    | (refine gX_split (fun hb => ?_) (fun hb => ?_) <;> (try simp only [hb]) <;> (try simp only [bset0, reduceCtorEq] at hb) <;> simp (maxSteps := 4000000) (disch := omega) only [dr0, dr1, dr2, dr3, dr4, if_true, if_false, Option.some.injEq, Nat.reduceEqDiff, Int.reduceToNat, Nat.reduceSub, Nat.reduceAdd, Nat.reduceMul, Nat.reduceLT, Nat.reduceLeDiff, reduceCtorEq, ↓reduceIte, catT, enc0, enc1, if_pos, if_neg, hw])
    | (refine CWx.br rfl (fun hb => ?_) (fun hb => ?_) <;> first | exact Bool.noConfusion hb | (first | (simp only [bset0, reduceCtorEq] at hb; done) | ((try simp only [bset0, reduceCtorEq] at hb); first | contradiction | skip)))
    | (refine CWx.e fun K hK => ?_; simp (maxSteps := 4000000) (disch := omega) only [dr0, dr1, dr2, dr3, dr4, if_true, if_false, Option.some.injEq, Nat.reduceEqDiff, Int.reduceToNat, Nat.reduceSub, Nat.reduceAdd, Nat.reduceMul, Nat.reduceLT, Nat.reduceLeDiff, reduceCtorEq, ↓reduceIte, catT, enc0, enc1, if_pos, if_neg, hw])
    | refine CWx.seq ?_
    | refine CWx.skip ?_
    | refine CWx.exit ?_
    | (refine CWx.ret fun al hal => finK_ext hal (finK_pure (.inr rfl) (by simp only [resRV, Am.get, Nat.reduceEqDiff, ↓reduceIte]; exact rfl) ?_ ?_); (focus (first | (rfl; done) | ((simp only [tupAV]; congr <;> omega); done) | (simp [tupAV, *]; done))); (focus (first | rfl | (simp [AV.allR, allRL, allRL_ix]; done))))
    | (intro al hal; exact finK_ext hal (finK_keep (.inl rfl) (xs := []) rfl rfl rfl (by simp) rfl (fun b hb => by rw [List.mem_singleton.1 hb]; simp only [Blk.allR, allRL_ix])))
end Go.Hull
end
section
set_option linter.unusedSimpArgs false
set_option linter.unusedVariables false
set_option maxHeartbeats 8000000
set_option maxRecDepth 100000
namespace Go.Hull
open Go Go.Am Go.Proofs

theorem viewG_ixn {hl : List Blk} {b g k m : Nat} {nil frz : Bool} {xs v : List Nat} (hb : hget hl b = .row nil g frz 1 (ix xs)) (hv : xs.take k = v) (h : k ≤ xs.length) : viewG hl (m + 2) (.sl b g 0 k) = some (ixV v, [b]) := by
  have he : ((ix xs).drop 0).take k = ix v := by rw [ix_drop, ix_take, List.drop_zero, hv]
  have h1 : optL (viewG hl (m + 1)) (ix v) = some ((ix v).map fun x => (x, [])) := optL_self _ fun x hx => by
    obtain ⟨n, -, rfl⟩ := List.mem_map.1 hx
    exact viewG_flat rfl m
  have h2 : (((ix v).map fun x => (x, ([] : List Nat))).all fun y => Nat.beq y.1.cells.length 1) = true := by
    rw [List.all_eq_true]
    intro y hy
    obtain ⟨x, hx, rfl⟩ := List.mem_map.1 hy
    obtain ⟨n, -, rfl⟩ := List.mem_map.1 hx
    rfl
  have hc : True ∧ 0 + k ≤ (ix xs).length := ⟨trivial, by rw [ix_length]; omega⟩
  unfold viewG
  simp only [flatN, AV.lt, Nat.not_lt_zero, decide_false, Bool.false_eq_true, if_false, hb]
  rw [if_pos hc]
  simp only [he, h1, h2, if_true, List.map_map, Function.comp_def, List.map_id', catT_nil]
  rfl
/-- A closure over a slice, seen. -/
theorem viewG_cloS {hl : List Blk} {b g sz c g' k : Nat} {nil frz nil' frz' : Bool} {f : FuncId} {xs v : List Nat} (hb : hget hl b = .row nil g frz sz [.sl c g' 0 k]) (hc : hget hl c = .row nil' g' frz' 1 (ix xs)) (hv : xs.take k = v) (h : k ≤ xs.length) :
    viewG hl 6 (.clo f [.ptr b g 0 0]) = some (.clo f [.rp true [ixV v]], [b, c]) := by
  have h1 : viewG hl 4 (.sl c g' 0 k) = some (ixV v, [c]) := viewG_ixn hc hv h
  have h2 : viewG hl 5 (.ptr b g 0 0) = some (.rp true [ixV v], [b, c]) := by
    unfold viewG
    simp only [flatN, AV.lt, Nat.not_lt_zero, decide_false, Bool.false_eq_true, if_false, hb, if_true, List.getElem?_cons_zero, AV.cells, List.drop_zero, optL, h1, List.map_cons, List.map_nil, catT, List.append_nil]
  unfold viewG
  simp only [flatN, allB, AV.lt, ltL, Nat.not_lt_zero, decide_false, Bool.false_eq_true, Bool.false_and, if_false, optL, h2, List.map_cons, List.map_nil, catT, List.append_nil]
theorem flat_cx (v : List Nat) (f : Nat) : flatN true 5 (.clo f [.rp true [ixV v]]) = true := by
  simp only [flatN, allB, flat_ixV v 0]
theorem mapR_ixL (σ : Nat → Nat → Nat × Nat) (v : List Nat) : mapRL σ (ix v) = ix v := mapRL_id (q := true) _ (allRL_ix v _ _)
theorem c64 (zs : List Nat) (n : Nat) (h : n ≤ zs.length) : CallsF Try.prog 64 [.sl 0 0 0 n] [.row false 0 false 1 (ix zs)] (.clo 94 [.ptr 1 0 0 0]) [.row false 0 false 1 (ix zs), .row false 0 false 1 [.sl 0 0 0 n]] := by
  refine callsF_cwx hm hf64 (by simp [cf64]) ?_
  simp only [cf64, argsAl]
  repeat' first
    | (refine hK _ _ _ (by first | exact fun h => Bool.noConfusion h | exact fun _ => rfl) ?_; clear hK K)
    | (refine CWx.r fun K hK => ?_; simp (maxSteps := 4000000) (disch := omega) only [dr0, dr1, dr2, dr3, dr4, if_true, if_false, Option.some.injEq, Nat.reduceEqDiff, Int.reduceToNat, Nat.reduceSub, Nat.reduceAdd, Nat.reduceMul, Nat.reduceLT, Nat.reduceLeDiff, reduceCtorEq, ↓reduceIte, catT, enc0, enc1, if_pos, if_neg])
    | refine CWx.go ?_
    | (refine gX_split (fun hb => ?_) (fun hb => ?_) <;> (try simp only [hb]) <;> (try simp only [bset0, reduceCtorEq] at hb) <;> simp (maxSteps := 4000000) (disch := omega) only [dr0, dr1, dr2, dr3, dr4, if_true, if_false, Option.some.injEq, Nat.reduceEqDiff, Int.reduceToNat, Nat.reduceSub, Nat.reduceAdd, Nat.reduceMul, Nat.reduceLT, Nat.reduceLeDiff, reduceCtorEq, ↓reduceIte, catT, enc0, enc1, if_pos, if_neg])
    | (refine CWx.br rfl (fun hb => ?_) (fun hb => ?_) <;> first | exact Bool.noConfusion hb | (first | (simp only [bset0, reduceCtorEq] at hb; done) | ((try simp only [bset0, reduceCtorEq] at hb); first | contradiction | skip)))
    | (refine CWx.e fun K hK => ?_; simp (maxSteps := 4000000) (disch := omega) only [dr0, dr1, dr2, dr3, dr4, if_true, if_false, Option.some.injEq, Nat.reduceEqDiff, Int.reduceToNat, Nat.reduceSub, Nat.reduceAdd, Nat.reduceMul, Nat.reduceLT, Nat.reduceLeDiff, reduceCtorEq, ↓reduceIte, catT, enc0, enc1, if_pos, if_neg])
    | refine CWx.seq ?_
    | refine CWx.skip ?_
    | refine CWx.exit ?_
    | (refine CWx.ret fun al hal => finK_ext hal (finK_pure (.inr rfl) (by simp only [resRV, Am.get, Nat.reduceEqDiff, ↓reduceIte]; exact rfl) ?_ ?_); (focus (first | (rfl; done) | ((simp only [tupAV]; congr <;> omega); done) | (simp [tupAV, *]; done))); (focus (first | rfl | (simp [AV.allR, allRL, allRL_ix]; done))))
    | (refine CWx.ret fun al hal => finK_ext hal ⟨.inr rfl, [.clo 94 [.ptr 1 0 0 0]], [(1, 0)], (by simp [resRV, Am.get]), exOk_spec ?_, rfl, ?_⟩)
    | (simp [exOk, Nodups, hget, Blk.allR, allRL, allRL_ix, tupAV, AV.allR, sigP, rowGen]; done)
    | (simp [exHl, hget, Blk.mapR, mapRL, Blk.zero, AV.mapR, sigF, mapR_ixL])
/-- The memory after the i-th number. -/
def rowsC (v : List Nat) : Nat → List Blk
  | 0 => [.row false 0 false 1 [.nils], .row true 0 false 1 []]
  | i + 1 => [.row false 0 false 1 [.sl 3 i 0 (i + 1)], .row true 0 false 1 [], .row false 0 false 1 [.int .i64 ((v.getD 0 0 : Nat) : Int)], .row false i false 1 (ix (v.take (i + 1)))]
theorem rowsC_zero (v : List Nat) : rowsC v 0 = [.row false 0 false 1 [.nils], .row true 0 false 1 []] := rfl
theorem rowsC_succ (v : List Nat) (i : Nat) : rowsC v (i + 1) = [.row false 0 false 1 [.sl 3 i 0 (i + 1)], .row true 0 false 1 [], .row false 0 false 1 [.int .i64 ((v.getD 0 0 : Nat) : Int)], .row false i false 1 (ix (v.take (i + 1)))] := rfl
theorem rowsC_one (v : List Nat) (h : 0 < v.length) : rowsC v 1 = [.row false 0 false 1 [.sl 3 0 0 1], .row true 0 false 1 [], .row false 0 false 1 [.int .i64 ((v.getD 0 0 : Nat) : Int)], .row false 0 false 1 [.int .i64 ((v.getD 0 0 : Nat) : Int)]] := by
  rw [show (1 : Nat) = 0 + 1 from rfl, rowsC_succ, take_succN v h]; rfl
theorem c108 (v : List Nat) (h0 : 0 < v.length) (hn : v.length < 100000) : CallsF Try.prog 108 [.nils, .clo 94 [.rp true [ixV v]]] [] (.sl 0 0 0 v.length) [.row false 0 false 1 (ix v)] := by
  refine callsF_cwx hm hf108 (by simp [cf108]) ?_
  simp only [cf108, argsAl]
  repeat' first
    | (refine hK _ _ _ (by first | exact fun h => Bool.noConfusion h | exact fun _ => rfl) ?_; clear hK K)
    | (refine CWx.r fun K hK => ?_; simp (maxSteps := 4000000) (disch := omega) only [dr0, dr1, dr2, dr3, dr4, if_true, if_false, Option.some.injEq, Nat.reduceEqDiff, Int.reduceToNat, Nat.reduceSub, Nat.reduceAdd, Nat.reduceMul, Nat.reduceLT, Nat.reduceLeDiff, reduceCtorEq, ↓reduceIte, catT, enc0, enc1, if_pos, if_neg])
    | refine CWx.go ?_
    | (refine gX_split (fun hb => ?_) (fun hb => ?_) <;> (try simp only [hb]) <;> (try simp only [bset0, reduceCtorEq] at hb) <;> first | omega | simp (maxSteps := 4000000) (disch := omega) only [dr0, dr1, dr2, dr3, dr4, if_true, if_false, Option.some.injEq, Nat.reduceEqDiff, Int.reduceToNat, Nat.reduceSub, Nat.reduceAdd, Nat.reduceMul, Nat.reduceLT, Nat.reduceLeDiff, reduceCtorEq, ↓reduceIte, catT, enc0, enc1, if_pos, if_neg])
    | (refine CWx.br rfl (fun hb => ?_) (fun hb => ?_) <;> first | exact Bool.noConfusion hb | (first | (simp only [bset0, reduceCtorEq] at hb; done) | ((try simp only [bset0, reduceCtorEq] at hb); first | omega | skip)))
    | (refine CWx.e fun K hK => ?_; simp (maxSteps := 4000000) (disch := omega) only [dr0, dr1, dr2, dr3, dr4, if_true, if_false, Option.some.injEq, Nat.reduceEqDiff, Int.reduceToNat, Nat.reduceSub, Nat.reduceAdd, Nat.reduceMul, Nat.reduceLT, Nat.reduceLeDiff, reduceCtorEq, ↓reduceIte, catT, enc0, enc1, if_pos, if_neg])
    | refine CWx.seq ?_
    | refine CWx.block (id := 0) ?_
    | refine CWx.block (id := 1) ?_
    | refine CWx.skip ?_
    | refine CWx.exit ?_
    | (refine CWx.ret fun al hal => finK_ext hal (finK_pure (.inr rfl) (by simp only [resRV, Am.get, Nat.reduceEqDiff, ↓reduceIte]; exact rfl) ?_ ?_); (focus (first | (rfl; done) | ((simp only [tupAV]; congr <;> omega); done) | (simp [tupAV, *]; done))); (focus (first | rfl | (simp [AV.allR, allRL, allRL_ix]; done))))
    | (refine CWx.ret fun al hal => finK_ext hal (finK_new (b := 3) (.inr rfl) (by simp only [resRV, Am.get, Nat.reduceEqDiff, ↓reduceIte]; exact rfl) rfl (by first | exact allRL_ix _ _ _ | exact allRL_pts _ _ _ | rfl) ?_ ?_) <;> (simp [tupAV, AV.allR, allRL, sigP, AV.mapR, mapRL, sigF]; done))
    | (refine fun al2 hal2 => rangeEndM 4 (by simp) (.inl rfl) (by first | rfl | simp) (by simp only [List.length_cons, List.length_nil, Nat.reduceAdd, List.take]; exact rfl) (by simp [ltB, Blk.lt, ltL, AV.lt, ltL_ix]) haly ?_)
    | (refine hK _ _ _ ?_; clear hK K)
    | (refine CYx.r fun K hK => ?_; simp (maxSteps := 4000000) (disch := omega) only [drY, Option.isNone_none, Option.isNone_some, dr0, dr1, dr2, dr3, dr4, if_true, if_false, Option.some.injEq, Nat.reduceEqDiff, Int.reduceToNat, Nat.reduceSub, Nat.reduceAdd, Nat.reduceMul, Nat.reduceLT, Nat.reduceLeDiff, reduceCtorEq, ↓reduceIte, catT, enc0, enc1, if_pos, if_neg])
    | (refine CYx.e fun K hK => ?_; simp (maxSteps := 4000000) (disch := omega) only [drY, Option.isNone_none, Option.isNone_some, dr0, dr1, dr2, dr3, dr4, if_true, if_false, Option.some.injEq, Nat.reduceEqDiff, Int.reduceToNat, Nat.reduceSub, Nat.reduceAdd, Nat.reduceMul, Nat.reduceLT, Nat.reduceLeDiff, reduceCtorEq, ↓reduceIte, catT, enc0, enc1, if_pos, if_neg])
    | (refine hK1 _ _ _ ?_; clear hK1 K1)
    | (refine hK _ _ _ rfl ?_; clear hK K; simp only [List.drop]; simp (maxSteps := 4000000) (disch := omega) only [drY, Option.isNone_none, Option.isNone_some, dr0, dr1, dr2, dr3, dr4, if_true, if_false, Option.some.injEq, Nat.reduceEqDiff, Int.reduceToNat, Nat.reduceSub, Nat.reduceAdd, Nat.reduceMul, Nat.reduceLT, Nat.reduceLeDiff, reduceCtorEq, ↓reduceIte, catT, enc0, enc1, if_pos, if_neg])
    | refine CYx.go ?_
    | refine CWx.goY ?_
    | refine YCx.yieldL hYy haly rfl rfl rfl (by simp only [evsA, evA_t, evA_c, Am.get, setPs, Am.set, Nat.reduceEqDiff, ↓reduceIte]; exact rfl) ?_
    | (refine gY_split _ _ _ _ _ _ _ (fun hb => ?_) (fun hb => ?_) <;> (try simp only [hb]) <;> (try simp only [bset0, reduceCtorEq] at hb) <;> first | omega | simp (maxSteps := 4000000) (disch := omega) only [drY, Option.isNone_none, Option.isNone_some, dr0, dr1, dr2, dr3, dr4, if_true, if_false, Option.some.injEq, Nat.reduceEqDiff, Int.reduceToNat, Nat.reduceSub, Nat.reduceAdd, Nat.reduceMul, Nat.reduceLT, Nat.reduceLeDiff, reduceCtorEq, ↓reduceIte, catT, enc0, enc1, if_pos, if_neg])
    | (refine CYx.br rfl (fun hb => ?_) (fun hb => ?_) <;> first | exact Bool.noConfusion hb | (first | (simp only [bset0, reduceCtorEq] at hb; done) | ((try simp only [bset0, reduceCtorEq] at hb); first | omega | skip)))
    | (intro al2 hal2; show RYX _ _ _ _ _ _ _; simp (maxSteps := 4000000) (disch := omega) only [drY, Option.isNone_none, Option.isNone_some, dr0, dr1, dr2, dr3, dr4, if_true, if_false, Option.some.injEq, Nat.reduceEqDiff, Int.reduceToNat, Nat.reduceSub, Nat.reduceAdd, Nat.reduceMul, Nat.reduceLT, Nat.reduceLeDiff, reduceCtorEq, ↓reduceIte, catT, enc0, enc1, if_pos, if_neg])
    | (refine CWx.ret fun al2 hal2 => ?_; show RYX _ _ _ _ _ _ _; simp (maxSteps := 4000000) (disch := omega) only [drY, Option.isNone_none, Option.isNone_some, dr0, dr1, dr2, dr3, dr4, if_true, if_false, Option.some.injEq, Nat.reduceEqDiff, Int.reduceToNat, Nat.reduceSub, Nat.reduceAdd, Nat.reduceMul, Nat.reduceLT, Nat.reduceLeDiff, reduceCtorEq, ↓reduceIte, catT, enc0, enc1, if_pos, if_neg])
    | refine CYx.ret fun al2 hal2 => rangeEndN (.inr rfl) (by first | rfl | simp) (by simp only [List.length_cons, List.length_nil, Nat.reduceAdd, List.take]; exact rfl) (by simp [ltB, Blk.lt, ltL, AV.lt, lt_pts, lt_pt, lt_ixV, ltL_ix, ltL_pt]) haly ?_
    | refine CYx.ret fun al2 hal2 => rangeEndR (.inr rfl) (by first | rfl | simp) (by simp only [List.length_cons, List.length_nil, Nat.reduceAdd, List.take]; exact rfl) (by simp [ltB, Blk.lt, ltL, AV.lt, lt_pts, lt_pt, lt_ixV, ltL_ix, ltL_pt]) haly ?_
    | refine CYx.ret fun al2 hal2 => rangeEndX (.inr rfl) (by first | rfl | simp) (by simp only [List.length_cons, List.length_nil, Nat.reduceAdd, List.take]; exact rfl) (by simp [ltB, Blk.lt, ltL, AV.lt, lt_pts, lt_pt, lt_ixV, ltL_ix, ltL_pt]) haly ?_
    | refine fun al2 hal2 => rangeEndN (.inl rfl) (by first | rfl | simp) (by simp only [List.length_cons, List.length_nil, Nat.reduceAdd, List.take]; exact rfl) (by simp [ltB, Blk.lt, ltL, AV.lt, lt_pts, lt_pt, lt_ixV, ltL_ix, ltL_pt]) haly ?_
    | refine fun al2 hal2 => rangeEndR (.inl rfl) (by first | rfl | simp) (by simp only [List.length_cons, List.length_nil, Nat.reduceAdd, List.take]; exact rfl) (by simp [ltB, Blk.lt, ltL, AV.lt, lt_pts, lt_pt, lt_ixV, ltL_ix, ltL_pt]) haly ?_
    | refine fun al2 hal2 => rangeEndX (.inl rfl) (by first | rfl | simp) (by simp only [List.length_cons, List.length_nil, Nat.reduceAdd, List.take]; exact rfl) (by simp [ltB, Blk.lt, ltL, AV.lt, lt_pts, lt_pt, lt_ixV, ltL_ix, ltL_pt]) haly ?_
    | refine CYx.seq ?_
    | (refine CWx.range (fid := 94) rfl hf94 (by simp [cf94]) fun aly haly Yy hYy => ?_; simp only [cf94, argsAl])
    | (refine CYx.block (id := 0) ?_; refine CYx.loopK (ι := Nat) [0, 5, 6] (fun i => v.length - i) (fun i => [(7, .int .i64 (i : Int))]) (fun i => rowsC v i) (fun i => i ≤ v.length) (fun i => by simp only [keepA, Am.get, List.cons_append, List.nil_append, Nat.reduceEqDiff, ↓reduceIte]; exact rfl) (0) ?_ ?_ (fun i hi => ?_); (focus ((try dsimp only) <;> (first | trivial | omega | (refine ⟨?_, ?_⟩ <;> first | omega | trivial | simp_all) | simp_all); done)); (focus (refine Fgt.mk' 2 (by simp) ?_ ?_ ?_ <;> simp [-List.map_take, -List.map_map, AV.isY, ltL_append, ix_nil, keepB, Am.get, AV.lt, ltL, lt_pts, lt_pt, lt_ixV, ltL_ix, ltL_pt, Blk.lt, ltB, rowsC_zero]; done)); have Hi := hi; ((rcases i with _ | i <;> simp only [rowsC_zero, rowsC_succ])))
    | refine CYx.block (id := 1) ?_
    | refine CYx.skip ?_
    | (refine CYx.exit (id := 0) ?_; (have ei : i + 1 = v.length := by omega); (have et : v.take (i + 1) = v := List.take_of_length_le (by omega)); simp only [ei, List.take_length])
    | refine CYx.exit ?_
    | (intro al hal; refine ⟨rfl, 1, ?_, ?_, Fgt.ofx hal ?_⟩; (focus (first | omega | (dsimp only; omega))); (focus ((try dsimp only) <;> (first | trivial | omega | (refine ⟨?_, ?_⟩ <;> first | omega | trivial | simp_all) | simp_all); done)); (focus (refine Fgt.mk' 4 (by simp) ?_ ?_ ?_ <;> simp [-List.map_take, -List.map_map, AV.isY, ltL_append, ix_nil, keepB, Am.get, AV.lt, ltL, lt_pts, lt_pt, lt_ixV, ltL_ix, ltL_pt, Blk.lt, ltB, rowsC_one v h0]; done)))
    | (intro al hal; refine ⟨rfl, i + 1 + 1, ?_, ?_, Fgt.ofx hal ?_⟩; (focus (first | omega | (dsimp only; omega))); (focus ((try dsimp only) <;> (first | trivial | omega | (refine ⟨?_, ?_⟩ <;> first | omega | trivial | simp_all) | simp_all); done)); (focus (refine Fgt.mk' 4 (by simp) ?_ ?_ ?_ <;> simp [-List.map_take, -List.map_map, AV.isY, ltL_append, ix_nil, keepB, Am.get, AV.lt, ltL, lt_pts, lt_pt, lt_ixV, ltL_ix, ltL_pt, Blk.lt, ltB, rowsC_succ, take_succN v (show i + 1 < v.length by omega)]; done)))
    | (refine fun al3 hal3 => finK_ext hal3 (finK_pure (.inr rfl) (by simp only [resRV, Am.get, Nat.reduceEqDiff, ↓reduceIte]; exact rfl) ?_ ?_); (focus (first | (rfl; done) | ((simp only [tupAV]; congr <;> omega); done) | (simp [tupAV, *]; done))); (focus (first | rfl | (simp [AV.allR, allRL, allRL_ix]; done))))
end Go.Hull
end
section
set_option linter.unusedSimpArgs false
set_option linter.unusedVariables false
set_option maxHeartbeats 8000000
set_option maxRecDepth 100000
namespace Go.Hull
open Go Go.Am Go.Proofs

theorem c92 (v : List Nat) (h0 : 0 < v.length) (hn : v.length < 100000) : CallsF Try.prog 92 [.clo 94 [.rp true [ixV v]]] [] (.sl 0 0 0 v.length) [.row false 0 false 1 (ix v)] := by
  refine callsF_cwx hm hf92 (by simp [cf92]) ?_
  simp only [cf92, argsAl]
  repeat' first
    | (refine hK _ _ _ (by first | exact fun h => Bool.noConfusion h | exact fun _ => rfl) ?_; clear hK K)
    | (refine CWx.r fun K hK => ?_; simp (maxSteps := 4000000) (disch := omega) only [dr0, dr1, dr2, dr3, dr4, if_true, if_false, Option.some.injEq, Nat.reduceEqDiff, Int.reduceToNat, Nat.reduceSub, Nat.reduceAdd, Nat.reduceMul, Nat.reduceLT, Nat.reduceLeDiff, reduceCtorEq, ↓reduceIte, catT, enc0, enc1, if_pos, if_neg, AV.ren, ren_row_ix])
    | refine CWx.go ?_
    | (refine RCx.viewR (fid := 108) (caps := []) (X := [.nils, .clo 94 [.rp true [ixV v]]]) rfl rfl (viewArgs2 (show viewG _ 6 .nils = some (.nils, []) from rfl) (viewG_flat (flat_cx v 94) _)) (c108 v h0 hn) (by simp only [AV.clean, clean_ix, Bool.and_self]) ?_; simp (maxSteps := 4000000) (disch := omega) only [dr0, dr1, dr2, dr3, dr4, if_true, if_false, Option.some.injEq, Nat.reduceEqDiff, Int.reduceToNat, Nat.reduceSub, Nat.reduceAdd, Nat.reduceMul, Nat.reduceLT, Nat.reduceLeDiff, reduceCtorEq, ↓reduceIte, catT, enc0, enc1, if_pos, if_neg, AV.ren, ren_row_ix])
    | (refine gX_split (fun hb => ?_) (fun hb => ?_) <;> (try simp only [hb]) <;> (try simp only [bset0, reduceCtorEq] at hb) <;> simp (maxSteps := 4000000) (disch := omega) only [dr0, dr1, dr2, dr3, dr4, if_true, if_false, Option.some.injEq, Nat.reduceEqDiff, Int.reduceToNat, Nat.reduceSub, Nat.reduceAdd, Nat.reduceMul, Nat.reduceLT, Nat.reduceLeDiff, reduceCtorEq, ↓reduceIte, catT, enc0, enc1, if_pos, if_neg, AV.ren, ren_row_ix])
    | (refine CWx.br rfl (fun hb => ?_) (fun hb => ?_) <;> first | exact Bool.noConfusion hb | (first | (simp only [bset0, reduceCtorEq] at hb; done) | ((try simp only [bset0, reduceCtorEq] at hb); first | contradiction | skip)))
    | (refine CWx.e fun K hK => ?_; simp (maxSteps := 4000000) (disch := omega) only [dr0, dr1, dr2, dr3, dr4, if_true, if_false, Option.some.injEq, Nat.reduceEqDiff, Int.reduceToNat, Nat.reduceSub, Nat.reduceAdd, Nat.reduceMul, Nat.reduceLT, Nat.reduceLeDiff, reduceCtorEq, ↓reduceIte, catT, enc0, enc1, if_pos, if_neg, AV.ren, ren_row_ix])
    | refine CWx.seq ?_
    | refine CWx.skip ?_
    | refine CWx.exit ?_
    | (refine CWx.ret fun al hal => finK_ext hal (finK_pure (.inr rfl) (by simp only [resRV, Am.get, Nat.reduceEqDiff, ↓reduceIte]; exact rfl) ?_ ?_); (focus (first | (rfl; done) | ((simp only [tupAV]; congr <;> omega); done) | (simp [tupAV, *]; done))); (focus (first | rfl | (simp [AV.allR, allRL, allRL_ix]; done))))
    | (refine CWx.ret fun al hal => finK_ext hal (finK_new (b := 1) (.inr rfl) (by simp only [resRV, Am.get, Nat.reduceEqDiff, ↓reduceIte]; exact rfl) rfl (by first | exact allRL_ix _ _ _ | exact allRL_pts _ _ _ | rfl) ?_ ?_) <;> (simp [tupAV, AV.allR, allRL, sigP, AV.mapR, mapRL, sigF]; done))
theorem insort_len (lt : Nat → Nat → Bool) (xs : List Nat) : (insort lt xs).length = xs.length := by
  unfold insort
  generalize xs.length - 1 = k
  have : ∀ (k i : Nat) (ys : List Nat), (outer lt k i ys).length = ys.length := by
    intro k
    induction k with
    | zero => intro i ys; rfl
    | succ k ih => intro i ys; rw [outer, ih, inner_length]
  exact this _ _ _
theorem c63 (v : List Nat) (h0 : 0 < v.length) (hn : v.length ≤ 8) : CallsF Try.prog 63 [.clo 94 [.rp true [ixV v]]] [] (.sl 0 0 0 v.length) [.row false 0 false 1 (ix (insort ltN v))] := by
  refine callsF_cwx hm hf63 (by simp [cf63]) ?_
  simp only [cf63, argsAl]
  repeat' first
    | (refine hK _ _ _ (by first | exact fun h => Bool.noConfusion h | exact fun _ => rfl) ?_; clear hK K)
    | (refine CWx.r fun K hK => ?_; simp (maxSteps := 4000000) (disch := omega) only [dr0, dr1, dr2, dr3, dr4, if_true, if_false, Option.some.injEq, Nat.reduceEqDiff, Int.reduceToNat, Nat.reduceSub, Nat.reduceAdd, Nat.reduceMul, Nat.reduceLT, Nat.reduceLeDiff, reduceCtorEq, ↓reduceIte, catT, enc0, enc1, if_pos, if_neg, AV.ren, ren_row_ix])
    | refine CWx.go ?_
    | (refine RCx.viewR (fid := 92) (caps := []) rfl rfl (viewArgs1 (viewG_flat (flat_cx v 94) _)) (c92 v h0 (by omega)) (by simp only [AV.clean, clean_ix, Bool.and_self]) ?_; simp (maxSteps := 4000000) (disch := omega) only [dr0, dr1, dr2, dr3, dr4, if_true, if_false, Option.some.injEq, Nat.reduceEqDiff, Int.reduceToNat, Nat.reduceSub, Nat.reduceAdd, Nat.reduceMul, Nat.reduceLT, Nat.reduceLeDiff, reduceCtorEq, ↓reduceIte, catT, enc0, enc1, if_pos, if_neg, AV.ren, ren_row_ix])
    | (refine RCx.one (fid := 93) (caps := []) rfl rfl (b := 1) (.cons (.row 0 0 v.length) .nil) (c93 0 v hn) (by simp) rfl (by simp only [Blk.lt, ltL_ix]) rfl (by simp only [Blk.lt, ltL_ix]) (by simp only [Blk.clean, cleanL_ix]) ?_; simp (maxSteps := 4000000) (disch := omega) only [dr0, dr1, dr2, dr3, dr4, if_true, if_false, Option.some.injEq, Nat.reduceEqDiff, Int.reduceToNat, Nat.reduceSub, Nat.reduceAdd, Nat.reduceMul, Nat.reduceLT, Nat.reduceLeDiff, reduceCtorEq, ↓reduceIte, catT, enc0, enc1, if_pos, if_neg, AV.ren, ren_row_ix])
    | (refine gX_split (fun hb => ?_) (fun hb => ?_) <;> (try simp only [hb]) <;> (try simp only [bset0, reduceCtorEq] at hb) <;> simp (maxSteps := 4000000) (disch := omega) only [dr0, dr1, dr2, dr3, dr4, if_true, if_false, Option.some.injEq, Nat.reduceEqDiff, Int.reduceToNat, Nat.reduceSub, Nat.reduceAdd, Nat.reduceMul, Nat.reduceLT, Nat.reduceLeDiff, reduceCtorEq, ↓reduceIte, catT, enc0, enc1, if_pos, if_neg, AV.ren, ren_row_ix])
    | (refine CWx.br rfl (fun hb => ?_) (fun hb => ?_) <;> first | exact Bool.noConfusion hb | (first | (simp only [bset0, reduceCtorEq] at hb; done) | ((try simp only [bset0, reduceCtorEq] at hb); first | contradiction | skip)))
    | (refine CWx.e fun K hK => ?_; simp (maxSteps := 4000000) (disch := omega) only [dr0, dr1, dr2, dr3, dr4, if_true, if_false, Option.some.injEq, Nat.reduceEqDiff, Int.reduceToNat, Nat.reduceSub, Nat.reduceAdd, Nat.reduceMul, Nat.reduceLT, Nat.reduceLeDiff, reduceCtorEq, ↓reduceIte, catT, enc0, enc1, if_pos, if_neg, AV.ren, ren_row_ix])
    | refine CWx.seq ?_
    | refine CWx.skip ?_
    | refine CWx.exit ?_
    | (refine CWx.ret fun al hal => finK_ext hal (finK_pure (.inr rfl) (by simp only [resRV, Am.get, Nat.reduceEqDiff, ↓reduceIte]; exact rfl) ?_ ?_); (focus (first | (rfl; done) | ((simp only [tupAV]; congr <;> omega); done) | (simp [tupAV, *]; done))); (focus (first | rfl | (simp [AV.allR, allRL, allRL_ix]; done))))
    | (refine CWx.ret fun al hal => finK_ext hal (finK_new (b := 1) (.inr rfl) (by simp only [resRV, Am.get, Nat.reduceEqDiff, ↓reduceIte]; exact rfl) rfl (by first | exact allRL_ix _ _ _ | exact allRL_pts _ _ _ | rfl) ?_ ?_) <;> (simp [tupAV, AV.allR, allRL, sigP, AV.mapR, mapRL, sigF]; done))
/-- a is highest and b lowest in the k-th direction square to the way from an end to a point. -/
def opC (v E : List Pt) (a b : Pt) (e x k : Nat) : Bool := decide (P v x ≠ P E e ∧ topN v (P (nrm (P E e) (P v x)) k) v.length = dot a (P (nrm (P E e) (P v x)) k) ∧ topN v (neg (P (nrm (P E e) (P v x)) k)) v.length = - dot b (P (nrm (P E e) (P v x)) k))
def oppB (v : List Pt) (a b : Pt) : Bool := (List.range 2).any fun e => (List.range v.length).any fun x => (List.range 2).any fun k => opC v [a, b] a b e x k
theorem oppB_iff (v : List Pt) (a b : Pt) : oppB v a b = true ↔ ∃ e, e < 2 ∧ ∃ x, x < v.length ∧ ∃ k, k < 2 ∧ opC v [a, b] a b e x k = true := by
  simp only [oppB, List.any_eq_true, List.mem_range]
theorem oppB_t {v : List Pt} {a b : Pt} {e x k : Nat} (he : e < 2) (hx : x < v.length) (hk : k < 2) (h : opC v [a, b] a b e x k = true) : oppB v a b = true := (oppB_iff v a b).2 ⟨e, he, x, hx, k, hk, h⟩
theorem oppB_f {v : List Pt} {a b : Pt} (h : ∀ e, e < 2 → ∀ x, x < v.length → ∀ k, k < 2 → opC v [a, b] a b e x k = false) : oppB v a b = false := by
  cases hq : oppB v a b with
  | false => rfl
  | true =>
    obtain ⟨e, he, x, hx, k, hk, h'⟩ := (oppB_iff v a b).1 hq
    rw [h e he x hx k hk] at h'; cases h'
theorem fld_quad (p q : Pt) (k : Nat) (h : k < 2) : fldAV (k * 2) true 2 (quad (sub q p)) = some (pt (P (nrm p q) k)) := by
  have : k = 0 ∨ k = 1 := by omega
  rcases this with rfl | rfl <;> rfl
theorem P2_ok {a b : Pt} (ha : okP a = true) (hb : okP b = true) (e : Nat) (h : e < 2) : okP (P [a, b] e) = true := by
  have : e = 0 ∨ e = 1 := by omega
  rcases this with rfl | rfl
  · exact ha
  · exact hb
theorem c65 (v : List Pt) (a b : Pt) (hl : 0 < v.length) (hn : v.length < 100000) (okv : v.all okP = true) (oka : okP a = true) (okb : okP b = true) : CallsF Try.prog 65 [pts v, pt a, pt b] [] (.bool (oppB v a b)) [] := by
  have qv := ok_P okv
  obtain ⟨E, hE⟩ : ∃ E : List Pt, E = [a, b] := ⟨_, rfl⟩
  have qe := P2_ok oka okb
  rw [← hE] at qe
  have sv : ∀ p ∈ v, smallV p := fun p hp => ok_small (List.all_eq_true.1 okv p hp)
  have sn : ∀ e x k, e < 2 → x < v.length → k < 2 → smallV (P (nrm (P E e) (P v x)) k) := fun e x k he hx hk => nrm_sm (qe e he) (qv x hx) k hk
  have dn : ∀ e x k, e < 2 → x < v.length → k < 2 → -80000000000 ≤ dot b (P (nrm (P E e) (P v x)) k) ∧ dot b (P (nrm (P E e) (P v x)) k) ≤ 80000000000 := fun e x k he hx hk => dot_bd (ok_small okb) (sn e x k he hx hk)
  have hlen2 : E.length = 2 := by rw [hE]; rfl
  refine callsF_cwx hm hf65 (by simp [cf65]) ?_
  simp only [cf65, argsAl]
  repeat' first
    | (refine hK _ _ _ (by first | exact fun h => Bool.noConfusion h | exact fun _ => rfl) ?_; clear hK K)
    | (refine CWx.r fun K hK => ?_; simp (maxSteps := 4000000) (disch := omega) only [dr0, dr1, dr2, dr3, dr4, if_true, if_false, Option.some.injEq, Nat.reduceEqDiff, Int.reduceToNat, Nat.reduceSub, Nat.reduceAdd, Nat.reduceMul, Nat.reduceLT, Nat.reduceLeDiff, reduceCtorEq, ↓reduceIte, catT, enc0, enc1, if_pos, if_neg, fld_quad, hlen2, Int.zero_sub])
    | refine CWx.go ?_
    | (apply RCx.view (fid := 95) (caps := []) rfl rfl; (focus ((simp only [evsA, evA_t, evA_c, Am.get, Nat.reduceEqDiff, ↓reduceIte, List.nil_append, List.cons_append, List.append_nil]; repeat' first | exact viewArgs_nil | apply viewArgs_cons | exact viewG_flat (flat_pts _ _) _ | exact viewG_flat (flat_ixV _ _) _ | exact viewG_flat (flat_sv _ _) _ | exact viewG_ixT rfl (by assumption) (by omega) | exact viewG_ptsL rfl (by first | omega | (simp; done) | (simp; omega)) | exact viewG_ix rfl (by first | omega | (simp; omega)) | exact viewG_flat rfl _; done))); (focus (refine c95 (qe _ ?_) (qv _ ?_) <;> first | omega | assumption)); (focus rfl); simp (maxSteps := 4000000) (disch := omega) only [dr0, dr1, dr2, dr3, dr4, if_true, if_false, Option.some.injEq, Nat.reduceEqDiff, Int.reduceToNat, Nat.reduceSub, Nat.reduceAdd, Nat.reduceMul, Nat.reduceLT, Nat.reduceLeDiff, reduceCtorEq, ↓reduceIte, catT, enc0, enc1, if_pos, if_neg, fld_quad, hlen2, Int.zero_sub])
    | (apply RCx.view (fid := 61) (caps := []) rfl rfl; (focus ((simp only [evsA, evA_t, evA_c, Am.get, Nat.reduceEqDiff, ↓reduceIte, List.nil_append, List.cons_append, List.append_nil]; repeat' first | exact viewArgs_nil | apply viewArgs_cons | exact viewG_flat (flat_pts _ _) _ | exact viewG_flat (flat_ixV _ _) _ | exact viewG_flat (flat_sv _ _) _ | exact viewG_ixT rfl (by assumption) (by omega) | exact viewG_ptsL rfl (by first | omega | (simp; done) | (simp; omega)) | exact viewG_ix rfl (by first | omega | (simp; omega)) | exact viewG_flat rfl _; done))); (focus (refine c61 v (P (nrm (P E e) (P v x)) k) hl ?_ sv (sn _ _ _ ?_ ?_ ?_) <;> first | omega | assumption)); (focus rfl); simp (maxSteps := 4000000) (disch := omega) only [dr0, dr1, dr2, dr3, dr4, if_true, if_false, Option.some.injEq, Nat.reduceEqDiff, Int.reduceToNat, Nat.reduceSub, Nat.reduceAdd, Nat.reduceMul, Nat.reduceLT, Nat.reduceLeDiff, reduceCtorEq, ↓reduceIte, catT, enc0, enc1, if_pos, if_neg, fld_quad, hlen2, Int.zero_sub])
    | (apply RCx.view (fid := 61) (caps := []) rfl rfl; (focus ((simp only [evsA, evA_t, evA_c, Am.get, Nat.reduceEqDiff, ↓reduceIte, List.nil_append, List.cons_append, List.append_nil]; repeat' first | exact viewArgs_nil | apply viewArgs_cons | exact viewG_flat (flat_pts _ _) _ | exact viewG_flat (flat_ixV _ _) _ | exact viewG_flat (flat_sv _ _) _ | exact viewG_ixT rfl (by assumption) (by omega) | exact viewG_ptsL rfl (by first | omega | (simp; done) | (simp; omega)) | exact viewG_ix rfl (by first | omega | (simp; omega)) | exact viewG_flat rfl _; done))); (focus (refine c61 v (neg (P (nrm (P E e) (P v x)) k)) hl ?_ sv (neg_small (sn _ _ _ ?_ ?_ ?_)) <;> first | omega | assumption)); (focus rfl); simp (maxSteps := 4000000) (disch := omega) only [dr0, dr1, dr2, dr3, dr4, if_true, if_false, Option.some.injEq, Nat.reduceEqDiff, Int.reduceToNat, Nat.reduceSub, Nat.reduceAdd, Nat.reduceMul, Nat.reduceLT, Nat.reduceLeDiff, reduceCtorEq, ↓reduceIte, catT, enc0, enc1, if_pos, if_neg, fld_quad, hlen2, Int.zero_sub])
    | (apply RCx.view (fid := 56) (caps := []) rfl rfl; (focus ((simp only [evsA, evA_t, evA_c, Am.get, Nat.reduceEqDiff, ↓reduceIte, List.nil_append, List.cons_append, List.append_nil]; repeat' first | exact viewArgs_nil | apply viewArgs_cons | exact viewG_flat (flat_pts _ _) _ | exact viewG_flat (flat_ixV _ _) _ | exact viewG_flat (flat_sv _ _) _ | exact viewG_ixT rfl (by assumption) (by omega) | exact viewG_ptsL rfl (by first | omega | (simp; done) | (simp; omega)) | exact viewG_ix rfl (by first | omega | (simp; omega)) | exact viewG_flat rfl _; done))); (focus (refine c56' (ok_small oka) (sn _ _ _ ?_ ?_ ?_) <;> first | omega | assumption)); (focus rfl); simp (maxSteps := 4000000) (disch := omega) only [dr0, dr1, dr2, dr3, dr4, if_true, if_false, Option.some.injEq, Nat.reduceEqDiff, Int.reduceToNat, Nat.reduceSub, Nat.reduceAdd, Nat.reduceMul, Nat.reduceLT, Nat.reduceLeDiff, reduceCtorEq, ↓reduceIte, catT, enc0, enc1, if_pos, if_neg, fld_quad, hlen2, Int.zero_sub])
    | (apply RCx.view (fid := 56) (caps := []) rfl rfl; (focus ((simp only [evsA, evA_t, evA_c, Am.get, Nat.reduceEqDiff, ↓reduceIte, List.nil_append, List.cons_append, List.append_nil]; repeat' first | exact viewArgs_nil | apply viewArgs_cons | exact viewG_flat (flat_pts _ _) _ | exact viewG_flat (flat_ixV _ _) _ | exact viewG_flat (flat_sv _ _) _ | exact viewG_ixT rfl (by assumption) (by omega) | exact viewG_ptsL rfl (by first | omega | (simp; done) | (simp; omega)) | exact viewG_ix rfl (by first | omega | (simp; omega)) | exact viewG_flat rfl _; done))); (focus (refine c56' (ok_small okb) (sn _ _ _ ?_ ?_ ?_) <;> first | omega | assumption)); (focus rfl); simp (maxSteps := 4000000) (disch := omega) only [dr0, dr1, dr2, dr3, dr4, if_true, if_false, Option.some.injEq, Nat.reduceEqDiff, Int.reduceToNat, Nat.reduceSub, Nat.reduceAdd, Nat.reduceMul, Nat.reduceLT, Nat.reduceLeDiff, reduceCtorEq, ↓reduceIte, catT, enc0, enc1, if_pos, if_neg, fld_quad, hlen2, Int.zero_sub])
    | (refine gX_split (fun hb => ?_) (fun hb => ?_) <;> (try simp only [hb]) <;> (try simp only [bset0, reduceCtorEq] at hb) <;> first | omega | simp (maxSteps := 4000000) (disch := omega) only [dr0, dr1, dr2, dr3, dr4, if_true, if_false, Option.some.injEq, Nat.reduceEqDiff, Int.reduceToNat, Nat.reduceSub, Nat.reduceAdd, Nat.reduceMul, Nat.reduceLT, Nat.reduceLeDiff, reduceCtorEq, ↓reduceIte, catT, enc0, enc1, if_pos, if_neg, fld_quad, hlen2, Int.zero_sub])
    | (refine CWx.br rfl (fun hb => ?_) (fun hb => ?_) <;> first | exact Bool.noConfusion hb | (first | (simp only [bset0, reduceCtorEq] at hb; done) | ((try simp only [bset0, reduceCtorEq] at hb); first | omega | skip)))
    | (refine CWx.e fun K hK => ?_; simp (maxSteps := 4000000) (disch := omega) only [dr0, dr1, dr2, dr3, dr4, if_true, if_false, Option.some.injEq, Nat.reduceEqDiff, Int.reduceToNat, Nat.reduceSub, Nat.reduceAdd, Nat.reduceMul, Nat.reduceLT, Nat.reduceLeDiff, reduceCtorEq, ↓reduceIte, catT, enc0, enc1, if_pos, if_neg, fld_quad, hlen2, Int.zero_sub])
    | (refine CWx.block (id := 0) ?_; refine CWx.loopK (ι := Nat) [0, 4, 5, 15, 16] (fun e => 2 - e) (fun e => [(17, .int .i64 (e : Int))]) (fun e => [.row false 0 false 2 [pt a], .row false 0 false 2 [pt b], .row false 0 false 2 (E.map pt)]) (fun e => e ≤ 2 ∧ ∀ e', e' < e → ∀ x, x < v.length → ∀ k, k < 2 → opC v E a b e' x k = false) (fun i => by simp only [keepA, Am.get, List.cons_append, List.nil_append, Nat.reduceEqDiff, ↓reduceIte]; exact rfl) (0) ?_ ?_ (fun e hi => ?_); (focus ((try dsimp only) <;> (first | trivial | omega | (refine ⟨?_, ?_⟩ <;> first | omega | trivial | simp_all) | simp_all); done)); (focus (refine Fgt.mk' 3 (by simp) ?_ ?_ ?_ <;> simp [-List.map_take, -List.map_map, AV.isY, ltL_append, ix_nil, keepB, Am.get, AV.lt, ltL, lt_pts, lt_pt, lt_ixV, ltL_ix, ltL_pt, Blk.lt, ltB, hE]; done)); have He := hi; (skip))
    | (refine CWx.block (id := 2) ?_; refine CWx.loopK (ι := Nat) [0, 4, 5, 8, 15, 16, 17, 21, 22] (fun x => v.length - x) (fun x => [(23, .int .i64 (x : Int))]) (fun x => [.row false 0 false 2 [pt a], .row false 0 false 2 [pt b], .row false 0 false 2 (E.map pt), .row false 0 false 2 [pt (P E e)]]) (fun x => x ≤ v.length ∧ ∀ x', x' < x → ∀ k, k < 2 → opC v E a b e x' k = false) (fun i => by simp only [keepA, Am.get, List.cons_append, List.nil_append, Nat.reduceEqDiff, ↓reduceIte]; exact rfl) (0) ?_ ?_ (fun x hi => ?_); (focus ((try dsimp only) <;> (first | trivial | omega | (refine ⟨?_, ?_⟩ <;> first | omega | trivial | simp_all) | simp_all); done)); (focus (refine Fgt.mk' 4 (by simp) ?_ ?_ ?_ <;> simp [-List.map_take, -List.map_map, AV.isY, ltL_append, ix_nil, keepB, Am.get, AV.lt, ltL, lt_pts, lt_pt, lt_ixV, ltL_ix, ltL_pt, Blk.lt, ltB]; done)); have Hx := hi; (skip))
    | (refine CWx.block (id := 4) ?_; refine CWx.loopK (ι := Nat) [0, 4, 5, 8, 10, 15, 16, 17, 21, 22, 23, 29] (fun k => 2 - k) (fun k => [(30, .int .i64 (k : Int))]) (fun k => [.row false 0 false 2 [pt a], .row false 0 false 2 [pt b], .row false 0 false 2 (E.map pt), .row false 0 false 2 [pt (P E e)], .row false 0 false 2 [pt (P v x)]]) (fun k => k ≤ 2 ∧ ∀ k', k' < k → opC v E a b e x k' = false) (fun i => by simp only [keepA, Am.get, List.cons_append, List.nil_append, Nat.reduceEqDiff, ↓reduceIte]; exact rfl) (0) ?_ ?_ (fun k hi => ?_); (focus ((try dsimp only) <;> (first | trivial | omega | (refine ⟨?_, ?_⟩ <;> first | omega | trivial | simp_all) | simp_all); done)); (focus (refine Fgt.mk' 5 (by simp) ?_ ?_ ?_ <;> simp [-List.map_take, -List.map_map, AV.isY, ltL_append, ix_nil, keepB, Am.get, AV.lt, ltL, lt_pts, lt_pt, lt_ixV, ltL_ix, ltL_pt, Blk.lt, ltB, quad]; done)); have Hk := hi; ((have hsd : k < 2 → (-200000 ≤ (P (nrm (P E e) (P v x)) k).1 ∧ (P (nrm (P E e) (P v x)) k).1 ≤ 200000) ∧ (-200000 ≤ (P (nrm (P E e) (P v x)) k).2 ∧ (P (nrm (P E e) (P v x)) k).2 ≤ 200000) := fun h => sn e x k (by omega) (by omega) h); (have hdb : k < 2 → -80000000000 ≤ dot b (P (nrm (P E e) (P v x)) k) ∧ dot b (P (nrm (P E e) (P v x)) k) ≤ 80000000000 := fun h => dn e x k (by omega) (by omega) h)))
    | refine CWx.seq ?_
    | refine CWx.block (id := 1) ?_
    | refine CWx.block (id := 3) ?_
    | refine CWx.block (id := 5) ?_
    | refine CWx.skip ?_
    | refine CWx.exit ?_
    | (refine CWx.ret fun al hal => finK_ext hal (finK_pure (.inr rfl) (by simp only [resRV, Am.get, Nat.reduceEqDiff, ↓reduceIte]; exact rfl) ?_ ?_); (focus (first | ((simp only [tupAV]; rw [oppB_t (v := v) (a := a) (b := b) (e := e) (x := x) (k := k) (by omega) (by omega) (by omega) (by rw [← hE]; simp only [opC, decide_eq_true_eq]; refine ⟨?_, ?_, ?_⟩ <;> first | omega | simp_all)]); done) | ((simp only [tupAV]; rw [oppB_f (v := v) (fun e' he => by rw [← hE]; exact hi.2 e' (by omega))]); done) | (rfl; done) | ((simp only [tupAV]; congr <;> omega); done) | (simp [tupAV, *]; done))); (focus (first | rfl | (simp [AV.allR, allRL, allRL_ix]; done))))
    | (intro al hal; refine ⟨k + 1, ?_, ?_, Fgt.ofx hal ?_⟩; (focus (first | omega | (dsimp only; omega))); (focus (exact ⟨by omega, allUp hi.2 (by simp only [opC, decide_eq_false_iff_not]; intro h; simp_all)⟩; done)); (focus (refine Fgt.mk' 5 (by simp) ?_ ?_ ?_ <;> simp [-List.map_take, -List.map_map, AV.isY, ltL_append, ix_nil, keepB, Am.get, AV.lt, ltL, lt_pts, lt_pt, lt_ixV, ltL_ix, ltL_pt, Blk.lt, ltB, quad]; done)))
    | (intro al hal; refine ⟨x + 1, ?_, ?_, Fgt.ofx hal ?_⟩; (focus (first | omega | (dsimp only; omega))); (focus (exact ⟨by omega, allUp Hx.2 (fun k' hk => hi.2 k' (by omega))⟩; done)); (focus (refine Fgt.mk' 4 (by simp) ?_ ?_ ?_ <;> simp [-List.map_take, -List.map_map, AV.isY, ltL_append, ix_nil, keepB, Am.get, AV.lt, ltL, lt_pts, lt_pt, lt_ixV, ltL_ix, ltL_pt, Blk.lt, ltB]; done)))
    | (intro al hal; refine ⟨e + 1, ?_, ?_, Fgt.ofx hal ?_⟩; (focus (first | omega | (dsimp only; omega))); (focus (exact ⟨by omega, allUp He.2 (fun x' hx => hi.2 x' (by omega))⟩; done)); (focus (refine Fgt.mk' 3 (by simp) ?_ ?_ ?_ <;> simp [-List.map_take, -List.map_map, AV.isY, ltL_append, ix_nil, keepB, Am.get, AV.lt, ltL, lt_pts, lt_pt, lt_ixV, ltL_ix, ltL_pt, Blk.lt, ltB, hE]; done)))
end Go.Hull
end
section
set_option linter.unusedSimpArgs false
set_option linter.unusedVariables false
set_option maxHeartbeats 8000000
set_option maxRecDepth 100000
namespace Go.Hull
open Go Go.Am Go.Proofs

def qJ (S : List Nat) (ok : Nat → Nat → Bool) (i : Nat) (s : List Pt) : Nat → List Pt
  | 0 => s
  | m + 1 => qJ S ok i s m ++ (if ok (S.getD i 0) (S.getD (i + 1 + m) 0) = true then [(((S.getD i 0 : Nat) : Int), ((S.getD (i + 1 + m) 0 : Nat) : Int))] else [])
def qI (S : List Nat) (ok : Nat → Nat → Bool) : Nat → List Pt
  | 0 => []
  | i + 1 => qJ S ok i (qI S ok i) (S.length - (i + 1))
theorem qI_zero (S : List Nat) (ok : Nat → Nat → Bool) : qI S ok 0 = [] := rfl
theorem qJ_zero (S : List Nat) (ok : Nat → Nat → Bool) (i : Nat) (s : List Pt) : qJ S ok i s 0 = s := rfl
theorem qI_succ (S : List Nat) (ok : Nat → Nat → Bool) (i : Nat) : qI S ok (i + 1) = qJ S ok i (qI S ok i) (S.length - (i + 1)) := rfl
theorem qJ_t (S : List Nat) (ok : Nat → Nat → Bool) (i m : Nat) (s : List Pt) (h : ok (S.getD i 0) (S.getD (i + 1 + m) 0) = true) : qJ S ok i s (m + 1) = qJ S ok i s m ++ [(((S.getD i 0 : Nat) : Int), ((S.getD (i + 1 + m) 0 : Nat) : Int))] := by rw [qJ, if_pos h]
theorem qJ_f (S : List Nat) (ok : Nat → Nat → Bool) (i m : Nat) (s : List Pt) (h : ok (S.getD i 0) (S.getD (i + 1 + m) 0) = false) : qJ S ok i s (m + 1) = qJ S ok i s m := by rw [qJ, if_neg (by rw [h]; decide), List.append_nil]
theorem qJ_len (S : List Nat) (ok : Nat → Nat → Bool) (i : Nat) (s : List Pt) (m : Nat) : (qJ S ok i s m).length ≤ s.length + m := by
  induction m with
  | zero => exact Nat.le_refl _
  | succ m ih => rw [qJ, List.length_append]; split <;> simp <;> omega
theorem qI_len (S : List Nat) (ok : Nat → Nat → Bool) (i : Nat) (hS : S.length ≤ 8) (hi : i ≤ 8) : (qI S ok i).length ≤ 64 := by
  have : ∀ i, (qI S ok i).length ≤ i * S.length := by
    intro i
    induction i with
    | zero => simp [qI]
    | succ i ih =>
      have := qJ_len S ok i (qI S ok i) (S.length - (i + 1))
      rw [qI, Nat.succ_mul]; omega
  have h1 := this i
  have h2 := Nat.mul_le_mul hi hS
  omega
/-- The vertices by number, and the antipodal pairs as the code makes them. -/
def vS (l : List Pt) : List Nat := insort ltN (hullI l)
def opL (l : List Pt) (i j : Nat) : Bool := oppB ((vS l).map (P l)) (P l i) (P l j)
def antH (l : List Pt) : List Pt × Int := if chk l ≠ 0 then ([], chk l) else (qI (vS l) (opL l) (vS l).length, 0)
theorem c20 (l : List Pt) (hn : l.length < 4611686018427387904) (h8 : chk l = 0 → l.length ≤ 8) : CallsF Try.prog 20 [pts l] [] (.tup [.sl 0 0 0 (antH l).1.length, .int .i64 (antH l).2]) [.row (antH l).1.isEmpty 0 false 2 ((antH l).1.map pt)] := by
  have k50 := c50 l hn
  by_cases hc : chk l = 0
  · rw [hc] at k50
    have hr : antH l = (qI (vS l) (opL l) (vS l).length, 0) := by unfold antH; rw [if_neg (by simp [hc])]
    rw [hr]
    by_cases hl : 0 < l.length
    · have l8 := h8 hc
      have oka := chk_ok hc
      have qa := ok_P oka
      obtain ⟨zs, z1, z2, z3⟩ := c51' l (by omega) oka
      have hle := hull_le (l := l)
      have ne := (hullT l hl).ne
      have k63 := c63 (hullI l) ne (by omega)
      have hSl : (vS l).length = (hullI l).length := insort_len _ _
      have sm : ∀ k, k < (vS l).length → (vS l).getD k 0 < l.length := fun k hk => hull_mem _ ((insort_mem (lt := ltN) _ _).1 (getD_mem hk))
      have k65 := fun i j (hi : i < l.length) (hj : j < l.length) => c65 ((vS l).map (P l)) (P l i) (P l j) (by rw [List.length_map]; omega) (by rw [List.length_map]; omega) (by
        rw [List.all_eq_true]
        intro p hp
        obtain ⟨i, hi, rfl⟩ := List.mem_map.1 hp
        exact qa i (hull_mem i ((insort_mem (lt := ltN) _ _).1 hi))) (qa i hi) (qa j hj)
      have hop : ∀ i j, oppB ((vS l).map (P l)) (P l i) (P l j) = opL l i j := fun _ _ => rfl
      obtain ⟨ok, hok⟩ : ∃ ok, ok = opL l := ⟨_, rfl⟩
      rw [← hok] at hop ⊢
      have hVl : ((vS l).map (P l)).length = (hullI l).length := by rw [List.length_map]; exact hSl
      obtain ⟨n, hnv⟩ : ∃ n, n = (hullI l).length := ⟨_, rfl⟩
      have hk63 : insort ltN (hullI l) = vS l := rfl
      rw [hk63] at k63
      obtain ⟨v, hv⟩ : ∃ v, v = hullI l := ⟨_, rfl⟩
      rw [← hv] at z1 z2 z3 hle k63 hSl ne hVl hnv
      obtain ⟨V, hV⟩ : ∃ V, V = (vS l).map (P l) := ⟨_, rfl⟩
      rw [← hV] at k65 hop hVl
      obtain ⟨S, hS⟩ : ∃ S, S = vS l := ⟨_, rfl⟩
      rw [← hS] at k63 hSl sm hV ⊢
      have hSt : S.take S.length = S := List.take_of_length_le (Nat.le_refl _)
      have lI := fun i => qI_len S ok i (by omega)
      have lJ := fun i => qJ_len S ok i (qI S ok i)
      rw [← hnv] at z1 z2 z3 hle hSl ne hVl k63
      rw [hSl]
      refine callsF_cwx hm hf20 (by simp [cf20]) ?_
      simp only [cf20, argsAl]
      repeat' first
        | (refine hK _ _ _ (by first | exact fun h => Bool.noConfusion h | exact fun _ => rfl) ?_; clear hK K)
        | (refine CWx.r fun K hK => ?_; simp (maxSteps := 4000000) (disch := omega) only [dr0, dr1, dr2, dr3, dr4, if_true, if_false, Option.some.injEq, Nat.reduceEqDiff, Int.reduceToNat, Nat.reduceSub, Nat.reduceAdd, Nat.reduceMul, Nat.reduceLT, Nat.reduceLeDiff, reduceCtorEq, ↓reduceIte, catT, enc0, enc1, if_pos, if_neg, AV.ren, ren_row_ix, hop])
        | refine CWx.go ?_
        | (apply RCx.view (fid := 50) (caps := []) rfl rfl; (focus ((simp only [evsA, evA_t, evA_c, Am.get, Nat.reduceEqDiff, ↓reduceIte, List.nil_append, List.cons_append, List.append_nil]; repeat' first | exact viewArgs_nil | apply viewArgs_cons | exact viewG_flat (flat_pts _ _) _ | exact viewG_flat (flat_ixV _ _) _ | exact viewG_flat (flat_sv _ _) _ | exact viewG_ixT rfl (by assumption) (by omega) | exact viewG_ptsL rfl (by first | omega | (simp; done) | (simp; omega)) | exact viewG_ix rfl (by first | omega | (simp; omega)) | exact viewG_flat rfl _; done))); (focus (refine k50 <;> first | omega | assumption)); (focus rfl); simp (maxSteps := 4000000) (disch := omega) only [dr0, dr1, dr2, dr3, dr4, if_true, if_false, Option.some.injEq, Nat.reduceEqDiff, Int.reduceToNat, Nat.reduceSub, Nat.reduceAdd, Nat.reduceMul, Nat.reduceLT, Nat.reduceLeDiff, reduceCtorEq, ↓reduceIte, catT, enc0, enc1, if_pos, if_neg, AV.ren, ren_row_ix, hop])
        | (refine RCx.viewR (fid := 51) (caps := []) rfl rfl (viewArgs_flat1 (flat_pts l 2)) z3 (by simp only [AV.clean, clean_ix, Bool.and_self]) ?_; simp (maxSteps := 4000000) (disch := omega) only [dr0, dr1, dr2, dr3, dr4, if_true, if_false, Option.some.injEq, Nat.reduceEqDiff, Int.reduceToNat, Nat.reduceSub, Nat.reduceAdd, Nat.reduceMul, Nat.reduceLT, Nat.reduceLeDiff, reduceCtorEq, ↓reduceIte, catT, enc0, enc1, if_pos, if_neg, AV.ren, ren_row_ix, hop])
        | (refine RCx.oneN (fid := 64) (caps := []) (r' := .clo 94 [.ptr 2 0 0 0]) (nb' := .row false 0 false 1 [.sl 1 0 0 n]) rfl rfl (b := 1) (.cons (.row 0 0 n) .nil) (c64 zs n (by omega)) (by simp) rfl (by simp only [Blk.lt, ltL_ix]) rfl (by simp only [Blk.lt, ltL_ix]) (by simp only [Blk.clean, cleanL_ix]) rfl rfl ?_; simp (maxSteps := 4000000) (disch := omega) only [dr0, dr1, dr2, dr3, dr4, if_true, if_false, Option.some.injEq, Nat.reduceEqDiff, Int.reduceToNat, Nat.reduceSub, Nat.reduceAdd, Nat.reduceMul, Nat.reduceLT, Nat.reduceLeDiff, reduceCtorEq, ↓reduceIte, catT, enc0, enc1, if_pos, if_neg, AV.ren, ren_row_ix, hop])
        | (refine RCx.viewR (fid := 63) (caps := []) rfl rfl (viewArgs1 (viewG_cloS rfl rfl z1 z2)) k63 (by simp only [AV.clean, clean_ix, Bool.and_self]) ?_; simp (maxSteps := 4000000) (disch := omega) only [dr0, dr1, dr2, dr3, dr4, if_true, if_false, Option.some.injEq, Nat.reduceEqDiff, Int.reduceToNat, Nat.reduceSub, Nat.reduceAdd, Nat.reduceMul, Nat.reduceLT, Nat.reduceLeDiff, reduceCtorEq, ↓reduceIte, catT, enc0, enc1, if_pos, if_neg, AV.ren, ren_row_ix, hop])
        | (apply RCx.view (fid := 65) (caps := []) rfl rfl; (focus ((simp only [evsA, evA_t, evA_c, Am.get, Nat.reduceEqDiff, ↓reduceIte, List.nil_append, List.cons_append, List.append_nil]; repeat' first | exact viewArgs_nil | apply viewArgs_cons | exact viewG_flat (flat_pts _ _) _ | exact viewG_flat (flat_ixV _ _) _ | exact viewG_flat (flat_sv _ _) _ | exact viewG_ixT rfl (by assumption) (by omega) | exact viewG_ptsL rfl (by first | omega | (simp; done) | (simp; omega)) | exact viewG_ix rfl (by first | omega | (simp; omega)) | exact viewG_flat rfl _; done))); (focus (refine k65 _ _ ?_ ?_ <;> first | omega | assumption)); (focus rfl); simp (maxSteps := 4000000) (disch := omega) only [dr0, dr1, dr2, dr3, dr4, if_true, if_false, Option.some.injEq, Nat.reduceEqDiff, Int.reduceToNat, Nat.reduceSub, Nat.reduceAdd, Nat.reduceMul, Nat.reduceLT, Nat.reduceLeDiff, reduceCtorEq, ↓reduceIte, catT, enc0, enc1, if_pos, if_neg, AV.ren, ren_row_ix, hop])
        | (refine gX_split (fun hb => ?_) (fun hb => ?_) <;> (try simp only [hb]) <;> (try simp only [bset0, reduceCtorEq] at hb) <;> first | omega | simp (maxSteps := 4000000) (disch := omega) only [dr0, dr1, dr2, dr3, dr4, if_true, if_false, Option.some.injEq, Nat.reduceEqDiff, Int.reduceToNat, Nat.reduceSub, Nat.reduceAdd, Nat.reduceMul, Nat.reduceLT, Nat.reduceLeDiff, reduceCtorEq, ↓reduceIte, catT, enc0, enc1, if_pos, if_neg, AV.ren, ren_row_ix, hop])
        | (refine CWx.br rfl (fun hb => ?_) (fun hb => ?_) <;> first | exact Bool.noConfusion hb | (first | (simp only [bset0, reduceCtorEq] at hb; done) | ((try simp only [bset0, reduceCtorEq] at hb); first | omega | skip)))
        | (refine CWx.e fun K hK => ?_; simp (maxSteps := 4000000) (disch := omega) only [dr0, dr1, dr2, dr3, dr4, if_true, if_false, Option.some.injEq, Nat.reduceEqDiff, Int.reduceToNat, Nat.reduceSub, Nat.reduceAdd, Nat.reduceMul, Nat.reduceLT, Nat.reduceLeDiff, reduceCtorEq, ↓reduceIte, catT, enc0, enc1, if_pos, if_neg, AV.ren, ren_row_ix, hop])
        | (refine CWx.block (id := 0) ?_; refine CWx.loopK (ι := Nat × Nat) [0, 5, 23, 24] (fun q => n - q.1) (fun q => [(25, .int .i64 (q.1 : Int)), (6, .sl 4 q.2 0 q.1)]) (fun q => [.row true 0 false 2 [], .row false 0 false 1 (ix zs), .row false 0 false 1 [.sl 1 0 0 n], .row false 0 false 1 (ix S), .row (decide (q.1 = 0)) q.2 false 2 (((S.take q.1).map (P l)).map pt)]) (fun q => q.1 ≤ n) (fun i => by simp only [keepA, Am.get, List.cons_append, List.nil_append, Nat.reduceEqDiff, ↓reduceIte]; exact rfl) ((0, 0)) ?_ ?_ (fun q hi => ?_); (focus ((try dsimp only) <;> (first | trivial | omega | (refine ⟨?_, ?_⟩ <;> first | omega | trivial | simp_all) | simp_all); done)); (focus (refine Fgt.mk' 5 (by simp) ?_ ?_ ?_ <;> simp [-List.map_take, -List.map_map, AV.isY, ltL_append, ix_nil, keepB, Am.get, AV.lt, ltL, lt_pts, lt_pt, lt_ixV, ltL_ix, ltL_pt, Blk.lt, ltB]; done)); have Hq := hi; ((have hsq := sm q.1)))
        | (refine CWx.block (id := 2) ?_; refine CWx.loopK (ι := Nat × Nat) [0, 5, 6, 37, 38] (fun i => n - i.1) (fun i => [(39, .int .i64 (i.1 : Int)), (9, .sl 5 i.2 0 (qI S ok i.1).length)]) (fun i => [.row true 0 false 2 [], .row false 0 false 1 (ix zs), .row false 0 false 1 [.sl 1 0 0 n], .row false 0 false 1 (ix S), .row false q.2 false 2 (V.map pt), .row (qI S ok i.1).isEmpty i.2 false 2 ((qI S ok i.1).map pt)]) (fun i => i.1 ≤ n) (fun i => by simp only [keepA, Am.get, List.cons_append, List.nil_append, Nat.reduceEqDiff, ↓reduceIte]; exact rfl) ((0, 0)) ?_ ?_ (fun i hi => ?_); (focus ((try dsimp only) <;> (first | trivial | omega | (refine ⟨?_, ?_⟩ <;> first | omega | trivial | simp_all) | simp_all); done)); (focus (refine Fgt.mk' 6 (by simp) ?_ ?_ ?_ <;> simp [-List.map_take, -List.map_map, AV.isY, ltL_append, ix_nil, keepB, Am.get, AV.lt, ltL, lt_pts, lt_pt, lt_ixV, ltL_ix, ltL_pt, Blk.lt, ltB, qI_zero]; done)); have Hi := hi; ((have hli := lI i.1); (have hsi := sm i.1)))
        | (refine CWx.block (id := 4) ?_; refine CWx.loopK (ι := Nat × Nat) [0, 5, 6, 11, 37, 38, 39, 47, 48] (fun j => n - j.1) (fun j => [(49, .int .i64 (j.1 : Int)), (9, .sl 5 j.2 0 (qJ S ok i.1 (qI S ok i.1) j.1).length)]) (fun j => [.row true 0 false 2 [], .row false 0 false 1 (ix zs), .row false 0 false 1 [.sl 1 0 0 n], .row false 0 false 1 (ix S), .row false q.2 false 2 (V.map pt), .row (qJ S ok i.1 (qI S ok i.1) j.1).isEmpty j.2 false 2 ((qJ S ok i.1 (qI S ok i.1) j.1).map pt)]) (fun j => j.1 ≤ n - (i.1 + 1) ∧ i.1 < n) (fun i => by simp only [keepA, Am.get, List.cons_append, List.nil_append, Nat.reduceEqDiff, ↓reduceIte]; exact rfl) ((0, i.2)) ?_ ?_ (fun j hi => ?_); (focus ((try dsimp only) <;> (first | trivial | omega | (refine ⟨?_, ?_⟩ <;> first | omega | trivial | simp_all) | simp_all); done)); (focus (refine Fgt.mk' 6 (by simp) ?_ ?_ ?_ <;> simp [-List.map_take, -List.map_map, AV.isY, ltL_append, ix_nil, keepB, Am.get, AV.lt, ltL, lt_pts, lt_pt, lt_ixV, ltL_ix, ltL_pt, Blk.lt, ltB, qJ_zero]; done)); have Hj := hi; ((have hlj := lJ i.1 j.1); (have hsj := sm (i.1 + 1 + j.1))))
        | refine CWx.seq ?_
        | refine CWx.block (id := 1) ?_
        | refine CWx.block (id := 3) ?_
        | refine CWx.block (id := 5) ?_
        | refine CWx.skip ?_
        | (refine CWx.exit (id := 0) ?_; (have eq : q.1 = S.length := by omega); simp only [eq, hSt, ← hV, decide_eq_false (show ¬ S.length = 0 by omega)]; simp only [hSl])
        | (refine CWx.exit (id := 4) ?_; (have ej : j.1 = S.length - (i.1 + 1) := by omega); simp only [ej])
        | (refine CWx.exit (id := 2) ?_; (have ei : i.1 = n := by omega); simp only [ei])
        | refine CWx.exit ?_
        | (refine CWx.ret fun al hal => finK_ext hal (finK_pure (.inr rfl) (by simp only [resRV, Am.get, Nat.reduceEqDiff, ↓reduceIte]; exact rfl) ?_ ?_); (focus (first | (rfl; done) | ((simp only [tupAV]; congr <;> omega); done) | (simp [tupAV, *]; done))); (focus (first | rfl | (simp [AV.allR, allRL, allRL_ix]; done))))
        | (intro al hal; refine ⟨(q.1 + 1, q.2 + 1), ?_, ?_, Fgt.ofx hal ?_⟩; (focus (first | omega | (dsimp only; omega))); (focus ((try dsimp only) <;> (first | trivial | omega | (refine ⟨?_, ?_⟩ <;> first | omega | trivial | simp_all) | simp_all); done)); (focus (refine Fgt.mk' 5 (by simp) ?_ ?_ ?_ <;> simp [-List.map_take, -List.map_map, AV.isY, ltL_append, ix_nil, keepB, Am.get, AV.lt, ltL, lt_pts, lt_pt, lt_ixV, ltL_ix, ltL_pt, Blk.lt, ltB, take_succ_map (P l) S q.1 (by omega)]; done)))
        | (intro al hal; refine ⟨(j.1 + 1, j.2 + 1), ?_, ?_, Fgt.ofx hal ?_⟩; (focus (first | omega | (dsimp only; omega))); (focus ((try dsimp only) <;> (first | trivial | omega | (refine ⟨?_, ?_⟩ <;> first | omega | trivial | simp_all) | simp_all); done)); (focus (refine Fgt.mk' 6 (by simp) ?_ ?_ ?_ <;> simp [-List.map_take, -List.map_map, AV.isY, ltL_append, ix_nil, keepB, Am.get, AV.lt, ltL, lt_pts, lt_pt, lt_ixV, ltL_ix, ltL_pt, Blk.lt, ltB, qJ_zero, qJ_t S ok i.1 j.1 (qI S ok i.1) (by assumption)]; done)))
        | (intro al hal; refine ⟨(j.1 + 1, j.2), ?_, ?_, Fgt.ofx hal ?_⟩; (focus (first | omega | (dsimp only; omega))); (focus ((try dsimp only) <;> (first | trivial | omega | (refine ⟨?_, ?_⟩ <;> first | omega | trivial | simp_all) | simp_all); done)); (focus (refine Fgt.mk' 6 (by simp) ?_ ?_ ?_ <;> simp [-List.map_take, -List.map_map, AV.isY, ltL_append, ix_nil, keepB, Am.get, AV.lt, ltL, lt_pts, lt_pt, lt_ixV, ltL_ix, ltL_pt, Blk.lt, ltB, qJ_zero, qJ_f S ok i.1 j.1 (qI S ok i.1) (by simpa using hb)]; done)))
        | (intro al hal; refine ⟨(i.1 + 1, j.2), ?_, ?_, Fgt.ofx hal ?_⟩; (focus (first | omega | (dsimp only; omega))); (focus ((try dsimp only) <;> (first | trivial | omega | (refine ⟨?_, ?_⟩ <;> first | omega | trivial | simp_all) | simp_all); done)); (focus (refine Fgt.mk' 6 (by simp) ?_ ?_ ?_ <;> simp [-List.map_take, -List.map_map, AV.isY, ltL_append, ix_nil, keepB, Am.get, AV.lt, ltL, lt_pts, lt_pt, lt_ixV, ltL_ix, ltL_pt, Blk.lt, ltB, qI_zero, qI_succ]; done)))
        | (refine CWx.ret fun al hal => finK_ext hal (finK_new (b := 5) (.inr rfl) (by simp only [resRV, Am.get, Nat.reduceEqDiff, ↓reduceIte]; exact rfl) rfl (by first | exact allRL_ix _ _ _ | exact allRL_pts _ _ _ | rfl) ?_ ?_) <;> (simp [tupAV, AV.allR, allRL, sigP, AV.mapR, mapRL, sigF]; done))
    · obtain rfl : l = [] := List.eq_nil_of_length_eq_zero (by omega)
      exact xFm_sound hm tOk Aw.ok0 20 _ _ _ _ _ (by kernel_rfl : xFm Aw.nm T Aw.ms0 1000 20 20 [.sv false 2 []] [] = some (.tup [.sl 0 0 0 0, .int .i64 0], [.row true 0 false 2 []]))
  · have hr : antH l = ([], chk l) := by unfold antH; rw [if_pos hc]
    rw [hr]
    refine callsF_cwx hm hf20 (by simp [cf20]) ?_
    simp only [cf20, argsAl]
    repeat' first
      | (refine hK _ _ _ (by first | exact fun h => Bool.noConfusion h | exact fun _ => rfl) ?_; clear hK K)
      | (refine CWx.r fun K hK => ?_; simp (maxSteps := 4000000) (disch := omega) only [dr0, dr1, dr2, dr3, dr4, if_true, if_false, Option.some.injEq, Nat.reduceEqDiff, Int.reduceToNat, Nat.reduceSub, Nat.reduceAdd, Nat.reduceMul, Nat.reduceLT, Nat.reduceLeDiff, reduceCtorEq, ↓reduceIte, catT, enc0, enc1, if_pos, if_neg])
      | refine CWx.go ?_
      | (apply RCx.view (fid := 50) (caps := []) rfl rfl; (focus ((simp only [evsA, evA_t, evA_c, Am.get, Nat.reduceEqDiff, ↓reduceIte, List.nil_append, List.cons_append, List.append_nil]; repeat' first | exact viewArgs_nil | apply viewArgs_cons | exact viewG_flat (flat_pts _ _) _ | exact viewG_flat (flat_ixV _ _) _ | exact viewG_flat (flat_sv _ _) _ | exact viewG_ixT rfl (by assumption) (by omega) | exact viewG_ptsL rfl (by first | omega | (simp; done) | (simp; omega)) | exact viewG_ix rfl (by first | omega | (simp; omega)) | exact viewG_flat rfl _; done))); (focus (refine k50 <;> first | omega | assumption)); (focus rfl); simp (maxSteps := 4000000) (disch := omega) only [dr0, dr1, dr2, dr3, dr4, if_true, if_false, Option.some.injEq, Nat.reduceEqDiff, Int.reduceToNat, Nat.reduceSub, Nat.reduceAdd, Nat.reduceMul, Nat.reduceLT, Nat.reduceLeDiff, reduceCtorEq, ↓reduceIte, catT, enc0, enc1, if_pos, if_neg])
      | (refine gX_split (fun hb => ?_) (fun hb => ?_) <;> (try simp only [hb]) <;> (try simp only [bset0, reduceCtorEq] at hb) <;> simp (maxSteps := 4000000) (disch := omega) only [dr0, dr1, dr2, dr3, dr4, if_true, if_false, Option.some.injEq, Nat.reduceEqDiff, Int.reduceToNat, Nat.reduceSub, Nat.reduceAdd, Nat.reduceMul, Nat.reduceLT, Nat.reduceLeDiff, reduceCtorEq, ↓reduceIte, catT, enc0, enc1, if_pos, if_neg])
      | (refine CWx.br rfl (fun hb => ?_) (fun hb => ?_) <;> first | exact Bool.noConfusion hb | (first | (simp only [bset0, reduceCtorEq] at hb; done) | ((try simp only [bset0, reduceCtorEq] at hb); first | contradiction | skip)))
      | (refine CWx.e fun K hK => ?_; simp (maxSteps := 4000000) (disch := omega) only [dr0, dr1, dr2, dr3, dr4, if_true, if_false, Option.some.injEq, Nat.reduceEqDiff, Int.reduceToNat, Nat.reduceSub, Nat.reduceAdd, Nat.reduceMul, Nat.reduceLT, Nat.reduceLeDiff, reduceCtorEq, ↓reduceIte, catT, enc0, enc1, if_pos, if_neg])
      | refine CWx.seq ?_
      | refine CWx.block (id := 1) ?_
      | refine CWx.block (id := 3) ?_
      | refine CWx.block (id := 5) ?_
      | refine CWx.skip ?_
      | refine CWx.exit ?_
      | (refine CWx.ret fun al hal => finK_ext hal (finK_pure (.inr rfl) (by simp only [resRV, Am.get, Nat.reduceEqDiff, ↓reduceIte]; exact rfl) ?_ ?_); (focus (first | (rfl; done) | ((simp only [tupAV]; congr <;> omega); done) | (simp [tupAV, *]; done))); (focus (first | rfl | (simp [AV.allR, allRL, allRL_ix]; done))))
      | (refine CWx.ret fun al hal => finK_ext hal (finK_new (b := 1) (.inr rfl) (by simp only [resRV, Am.get, Nat.reduceEqDiff, ↓reduceIte]; exact rfl) rfl (by first | exact allRL_ix _ _ _ | exact allRL_pts _ _ _ | rfl) ?_ ?_) <;> (simp [tupAV, AV.allR, allRL, sigP, AV.mapR, mapRL, sigF]; done))
      | (refine CWx.ret fun al hal => finK_ext hal (finK_new (b := 2) (.inr rfl) (by simp only [resRV, Am.get, Nat.reduceEqDiff, ↓reduceIte]; exact rfl) rfl (by first | exact allRL_ix _ _ _ | exact allRL_pts _ _ _ | rfl) ?_ ?_) <;> (simp [tupAV, AV.allR, allRL, sigP, AV.mapR, mapRL, sigF]; done))
      | (refine CWx.ret fun al hal => finK_ext hal (finK_new (b := 3) (.inr rfl) (by simp only [resRV, Am.get, Nat.reduceEqDiff, ↓reduceIte]; exact rfl) rfl (by first | exact allRL_ix _ _ _ | exact allRL_pts _ _ _ | rfl) ?_ ?_) <;> (simp [tupAV, AV.allR, allRL, sigP, AV.mapR, mapRL, sigF]; done))
end Go.Hull
end
section
set_option linter.unusedSimpArgs false
set_option linter.unusedVariables false
set_option maxHeartbeats 4000000
namespace Go.Hull
open Go Go.Am Go.Proofs

-- the highest point
theorem topN_spec {l : List Pt} (hl : 0 < l.length) (d : Pt) : ∀ n, n ≤ l.length → (∀ k, k < n → dot (P l k) d ≤ topN l d n) ∧ ∃ k, k < l.length ∧ topN l d n = dot (P l k) d := by
  intro n
  induction n with
  | zero => intro _; exact ⟨fun k hk => by omega, 0, hl, rfl⟩
  | succ n ih =>
    intro h
    obtain ⟨h1, k, hk, h2⟩ := ih (by omega)
    have e : topN l d (n + 1) = if topN l d n < dot (P l n) d then dot (P l n) d else topN l d n := by
      simp only [topN, maxI, gt_iff_lt]
    rw [e]
    by_cases hlt : topN l d n < dot (P l n) d
    · rw [if_pos hlt]
      exact ⟨fun j hj => by
        by_cases e : j = n
        · rw [e]; exact Int.le_refl _
        · have := h1 j (by omega); omega, n, by omega, rfl⟩
    · rw [if_neg hlt]
      exact ⟨fun j hj => by
        by_cases e : j = n
        · rw [e]; omega
        · exact h1 j (by omega), k, hk, h2⟩
theorem top_iff {l : List Pt} (hl : 0 < l.length) (d : Pt) {p : Pt} (hp : p ∈ l) : topN l d l.length = dot p d ↔ ∀ q ∈ l, dot q d ≤ dot p d := by
  obtain ⟨h1, k, hk, h2⟩ := topN_spec hl d l.length (Nat.le_refl _)
  obtain ⟨i, hi, rfl⟩ := mem_P hp
  constructor
  · intro h q hq
    obtain ⟨j, hj, rfl⟩ := mem_P hq
    have := h1 j hj
    omega
  · intro h
    have := h _ (P_mem hk)
    have := h1 i hi
    omega
theorem tpI_iff {l : List Pt} (hl : 0 < l.length) (d : Pt) {i : Nat} (hi : i < l.length) : i ∈ tpI l d l.length ↔ ∀ q ∈ l, dot q d ≤ dot (P l i) d := by
  rw [← top_iff hl d (P_mem hi)]
  simp only [tpI, List.mem_filter, List.mem_range, decide_eq_true_eq]
  exact ⟨fun h => h.2.symm, fun h => ⟨hi, h.symm⟩⟩
/-- a is highest and b lowest. -/
def Opp (l : List Pt) (a b d : Pt) : Prop := (∀ q ∈ l, dot q d ≤ dot a d) ∧ ∀ q ∈ l, dot b d ≤ dot q d
theorem dot_neg (p d : Pt) : dot p (neg d) = - dot p d := by simp only [dot, neg]; grind
/-- The points of the hull are as high as all. -/
theorem hull_top {l : List Pt} (hl : 0 < l.length) (d : Pt) (m : Int) (h : ∀ q, isV l (hullI l) q → dot q d ≤ m) : ∀ q ∈ l, dot q d ≤ m := by
  intro q hq
  have V := hullV l hl
  have hin : InP (isV l (hullI l)) q := in_of_inH V ((in_iff V q).1 (.inl hq))
  have := hin.aff (A := -d.1) (B := -d.2) (C := m) fun q hq => by
    have := h q hq
    simp only [dot, aff] at this ⊢
    rw [Int.neg_mul, Int.neg_mul, Int.mul_comm d.1, Int.mul_comm d.2]
    omega
  simp only [dot, aff] at this ⊢
  rw [Int.neg_mul, Int.neg_mul, Int.mul_comm d.1, Int.mul_comm d.2] at this
  omega
-- turning a direction up to a side
theorem turn_tri (w w1 w' d : Pt) : turn w w' * dot w1 d = turn w w1 * dot w' d + turn w1 w' * dot w d := by
  simp only [turn, dot]; grind
theorem first_turn (d : Pt) : ∀ (W : List Pt), W ≠ [] → (∀ w ∈ W, dot w d < 0) → ∃ w0 ∈ W, ∀ w ∈ W, 0 ≤ turn w0 w := by
  intro W
  induction W with
  | nil => intro h; exact absurd rfl h
  | cons w L ih =>
    intro _ hd
    by_cases hL : L = []
    · subst hL
      exact ⟨w, by simp, fun x hx => by
        rw [List.mem_singleton.1 hx]
        simp only [turn]
        rw [Int.mul_comm]; omega⟩
    · obtain ⟨w1, h1, h2⟩ := ih hL fun x hx => hd x (List.mem_cons_of_mem _ hx)
      by_cases ht : 0 ≤ turn w1 w
      · exact ⟨w1, List.mem_cons_of_mem _ h1, fun x hx => by
          rcases List.mem_cons.1 hx with rfl | hx
          · exact ht
          · exact h2 x hx⟩
      · have ht' : 0 ≤ turn w w1 := by
          have : turn w w1 = - turn w1 w := by simp only [turn]; grind
          omega
        refine ⟨w, by simp, fun x hx => ?_⟩
        rcases List.mem_cons.1 hx with rfl | hx
        · simp only [turn]; rw [Int.mul_comm]; omega
        · have e := turn_tri w w1 x d
          have a1 := hd w1 (List.mem_cons_of_mem _ h1)
          have a2 := hd x (List.mem_cons_of_mem _ hx)
          have a3 := hd w (by simp)
          have b1 : turn w w1 * dot x d ≤ 0 := Int.mul_nonpos_of_nonneg_of_nonpos ht' (by omega)
          have b2 : turn w1 x * dot w d ≤ 0 := Int.mul_nonpos_of_nonneg_of_nonpos (h2 x hx) (by omega)
          by_cases hn : 0 ≤ turn w x
          · exact hn
          · have : 0 < turn w x * dot w1 d := Int.mul_pos_of_neg_of_neg (by omega) a1
            omega
/-- A direction in a cone may be turned up to its edge. -/
theorem turn_up {W : List Pt} (hW : W ≠ []) (nz : ∀ w ∈ W, w ≠ (0, 0)) {d : Pt} (hd : d ≠ (0, 0)) (h : ∀ w ∈ W, dot w d ≤ 0) : ∃ w ∈ W, ∃ e, (e = (w.2, -w.1) ∨ e = (-w.2, w.1)) ∧ ∀ w' ∈ W, dot w' e ≤ 0 := by
  by_cases hz : ∃ w ∈ W, dot w d = 0
  · obtain ⟨w, hw, h0⟩ := hz
    have key : ∀ e : Pt, (e = (w.2, -w.1) ∨ e = (-w.2, w.1)) → 0 < dot d e → ∀ w' ∈ W, dot w' e ≤ 0 := fun e he hp w' hw' => by
      have hdd := dot_self_pos hd
      have hde : turn d e = 0 := by
        simp only [dot] at h0
        rcases he with rfl | rfl <;> simp only [turn] <;> grind
      have id : dot w' e * dot d d = dot w' d * dot d e + turn d w' * turn d e := by simp only [dot, turn]; grind
      rw [hde, Int.mul_zero, Int.add_zero] at id
      have a1 : dot w' d * dot d e ≤ 0 := Int.mul_nonpos_of_nonpos_of_nonneg (h w' hw') (by omega)
      by_cases hn : dot w' e ≤ 0
      · exact hn
      · have : 0 < dot w' e * dot d d := Int.mul_pos (by omega) hdd
        omega
    have hne : dot d (w.2, -w.1) ≠ 0 := fun h1 => by
      have l1 := lagr d w w
      have e1 : dot d w = 0 := by rw [← h0]; simp only [dot]; grind
      have e2 : turn d w = 0 := by
        have : turn d w = dot d (w.2, -w.1) := by simp only [dot, turn]; grind
        rw [this, h1]
      rw [e1, e2] at l1
      have := Int.mul_pos (dot_self_pos hd) (dot_self_pos (nz w hw))
      omega
    by_cases hp : 0 < dot d (w.2, -w.1)
    · exact ⟨w, hw, _, .inl rfl, key _ (.inl rfl) hp⟩
    · refine ⟨w, hw, _, .inr rfl, key _ (.inr rfl) ?_⟩
      have : dot d (-w.2, w.1) = - dot d (w.2, -w.1) := by simp only [dot]; grind
      omega
  · obtain ⟨w0, hw0, ht⟩ := first_turn d W hW fun w hw => by
      have := h w hw
      rcases Int.lt_or_eq_of_le this with h1 | h1
      · exact h1
      · exact absurd ⟨w, hw, h1⟩ hz
    refine ⟨w0, hw0, _, .inl rfl, fun w hw => ?_⟩
    have := ht w hw
    have e : dot w (w0.2, -w0.1) = - turn w0 w := by simp only [dot, turn]; grind
    omega
theorem opp_turn {V : List Pt} {a b d : Pt} (ha : a ∈ V) (hb : b ∈ V) (hab : a ≠ b) (hd : d ≠ (0, 0)) (h : Opp V a b d) : ∃ e, (e = a ∨ e = b) ∧ ∃ p ∈ V, p ≠ e ∧ ∃ d', (d' = (-(sub p e).2, (sub p e).1) ∨ d' = ((sub p e).2, -(sub p e).1)) ∧ Opp V a b d' := by
  obtain ⟨W, hW⟩ : ∃ W, W = ((V.filter fun p => decide (p ≠ a)).map fun p => sub p a) ++ ((V.filter fun p => decide (p ≠ b)).map fun p => sub b p) := ⟨_, rfl⟩
  have sz : ∀ p q : Pt, p ≠ q → sub p q ≠ (0, 0) := fun p q hne h => hne (by
    simp only [sub, Prod.mk.injEq] at h
    exact Prod.ext (by omega) (by omega))
  have mW : ∀ w, w ∈ W ↔ (∃ p ∈ V, p ≠ a ∧ sub p a = w) ∨ ∃ p ∈ V, p ≠ b ∧ sub b p = w := fun w => by
    rw [hW]; simp only [List.mem_append, List.mem_map, List.mem_filter, decide_eq_true_eq, and_assoc]
  have cone : ∀ d, (∀ w ∈ W, dot w d ≤ 0) ↔ Opp V a b d := fun d => by
    constructor
    · intro h
      refine ⟨fun q hq => ?_, fun q hq => ?_⟩
      · by_cases e : q = a
        · rw [e]; exact Int.le_refl _
        · have := h _ ((mW _).2 (.inl ⟨q, hq, e, rfl⟩))
          have e : dot (sub q a) d = dot q d - dot a d := by simp only [dot, sub]; grind
          omega
      · by_cases e : q = b
        · rw [e]; exact Int.le_refl _
        · have := h _ ((mW _).2 (.inr ⟨q, hq, e, rfl⟩))
          have e : dot (sub b q) d = dot b d - dot q d := by simp only [dot, sub]; grind
          omega
    · intro ⟨h1, h2⟩ w hw
      rcases (mW w).1 hw with ⟨p, hp, hne, rfl⟩ | ⟨p, hp, hne, rfl⟩
      · have := h1 p hp
        have e : dot (sub p a) d = dot p d - dot a d := by simp only [dot, sub]; grind
        omega
      · have := h2 p hp
        have e : dot (sub b p) d = dot b d - dot p d := by simp only [dot, sub]; grind
        omega
  have ne : W ≠ [] := fun e => by
    have := (mW (sub b a)).2 (.inl ⟨b, hb, fun h => hab h.symm, rfl⟩)
    rw [e] at this; cases this
  obtain ⟨w, hw, e, he, hc⟩ := turn_up ne (fun w hw => by
    rcases (mW w).1 hw with ⟨p, hp, hne, rfl⟩ | ⟨p, hp, hne, rfl⟩
    · exact sz _ _ hne
    · exact sz _ _ fun h => hne h.symm) hd ((cone d).2 h)
  rcases (mW w).1 hw with ⟨p, hp, hne, rfl⟩ | ⟨p, hp, hne, rfl⟩
  · exact ⟨a, .inl rfl, p, hp, hne, e, he.symm, (cone e).1 hc⟩
  · refine ⟨b, .inr rfl, p, hp, hne, e, ?_, (cone e).1 hc⟩
    have e1 : sub b p = (-(sub p b).1, -(sub p b).2) := by simp only [sub]; exact Prod.ext (by simp only; omega) (by simp only; omega)
    rw [e1] at he
    simp only [Int.neg_neg] at he
    rcases he with h | h
    · exact .inl h
    · exact .inr h
end Go.Hull
end
