/- Hull, Locate and Extreme, twice: walks.
   Conditions: a few points, if they are in range. -/
import Derived.Test.YtkbpkbjfphdgeaaPart13
section
set_option linter.unusedSimpArgs false
set_option linter.unusedVariables false
set_option maxHeartbeats 8000000
set_option maxRecDepth 100000
namespace Go.Hull
open Go Go.Am Go.Proofs

theorem c53a (l : List Pt) (hl : 0 < l.length) (hn : l.length ≤ 8) (oka : l.all okP = true) (h1 : (hullI l).length = 1) : CallsF Try.prog 53 [pts l] [] (.sv true 1 (ix (hullI l))) [] := by
  have hvl := vp_len l
  have ol := orderI_length l
  have om : ∀ i, i < l.length → (orderI l).getD i 0 < l.length := fun i hi => getD_lt (orderI_mem l) (by omega)
  have vl := vtx_length l
  have v0 := vtx_first hl
  obtain ⟨h, hh⟩ : ∃ h, h = hullI l := ⟨_, rfl⟩
  obtain ⟨V, hV⟩ : ∃ V, V = vtx l := ⟨_, rfl⟩
  rw [← hh, ← hV] at vl v0
  rw [← hh] at h1 ⊢
  have hV1 : V.take 1 = [h.getD 0 0] := by
    rw [take_succN V (i := 0) (by omega), v0]; rfl
  have h01 : [h.getD 0 0] = h := by
    cases h with
    | nil => simp at h1
    | cons x xs => cases xs with
      | nil => rfl
      | cons y ys => simp at h1
  refine callsF_cwx hm hf53 (by simp [cf53]) ?_
  simp only [cf53, argsAl]
  repeat' first
    | (refine hK _ _ _ (by first | exact fun h => Bool.noConfusion h | exact fun _ => rfl) ?_; clear hK K)
    | (refine CWx.r fun K hK => ?_; simp (maxSteps := 4000000) (disch := omega) only [dr0, dr1, dr2, dr3, dr4, if_true, if_false, Option.some.injEq, Nat.reduceEqDiff, Int.reduceToNat, Nat.reduceSub, Nat.reduceAdd, Nat.reduceMul, Nat.reduceLT, Nat.reduceLeDiff, reduceCtorEq, ↓reduceIte, catT, enc0, enc1, if_pos, if_neg, ix_one, AV.ren, ren_row_ix, hV1, slcMAV, ← hV, h01])
    | refine CWx.go ?_
    | (refine RCx.viewR (fid := 88) (caps := []) rfl rfl (viewArgs_flat1 (flat_pts l 2)) (c88 l hl (by omega)) (by simp [AV.clean, clean_ix]) ?_; simp (maxSteps := 4000000) (disch := omega) only [dr0, dr1, dr2, dr3, dr4, if_true, if_false, Option.some.injEq, Nat.reduceEqDiff, Int.reduceToNat, Nat.reduceSub, Nat.reduceAdd, Nat.reduceMul, Nat.reduceLT, Nat.reduceLeDiff, reduceCtorEq, ↓reduceIte, catT, enc0, enc1, if_pos, if_neg, ix_one, AV.ren, ren_row_ix, hV1, slcMAV, ← hV, h01])
    | (apply RCx.view (fid := 89) (caps := []) rfl rfl; (focus ((simp only [evsA, evA_t, evA_c, Am.get, Nat.reduceEqDiff, ↓reduceIte, List.nil_append, List.cons_append, List.append_nil]; repeat' first | exact viewArgs_nil | apply viewArgs_cons | exact viewG_flat (flat_pts _ _) _ | exact viewG_flat (flat_ixV _ _) _ | exact viewG_flat (flat_sv _ _) _ | exact viewG_ixT rfl (by assumption) (by omega) | exact viewG_ptsL rfl (by first | omega | (simp; done) | (simp; omega)) | exact viewG_ix rfl (by first | omega | (simp; omega)) | exact viewG_flat rfl _; done))); (focus (refine c89 l _ (om _ ?_) ?_ oka <;> first | omega | assumption)); (focus rfl); simp (maxSteps := 4000000) (disch := omega) only [dr0, dr1, dr2, dr3, dr4, if_true, if_false, Option.some.injEq, Nat.reduceEqDiff, Int.reduceToNat, Nat.reduceSub, Nat.reduceAdd, Nat.reduceMul, Nat.reduceLT, Nat.reduceLeDiff, reduceCtorEq, ↓reduceIte, catT, enc0, enc1, if_pos, if_neg, ix_one, AV.ren, ren_row_ix, hV1, slcMAV, ← hV, h01])
    | (refine gX_split (fun hb => ?_) (fun hb => ?_) <;> (try simp only [hb]) <;> (try simp only [bset0, reduceCtorEq] at hb) <;> first | omega | simp (maxSteps := 4000000) (disch := omega) only [dr0, dr1, dr2, dr3, dr4, if_true, if_false, Option.some.injEq, Nat.reduceEqDiff, Int.reduceToNat, Nat.reduceSub, Nat.reduceAdd, Nat.reduceMul, Nat.reduceLT, Nat.reduceLeDiff, reduceCtorEq, ↓reduceIte, catT, enc0, enc1, if_pos, if_neg, ix_one, AV.ren, ren_row_ix, hV1, slcMAV, ← hV, h01])
    | (refine CWx.br rfl (fun hb => ?_) (fun hb => ?_) <;> first | exact Bool.noConfusion hb | (first | (simp only [bset0, reduceCtorEq] at hb; done) | ((try simp only [bset0, reduceCtorEq] at hb); first | omega | skip)))
    | (refine CWx.e fun K hK => ?_; simp (maxSteps := 4000000) (disch := omega) only [dr0, dr1, dr2, dr3, dr4, if_true, if_false, Option.some.injEq, Nat.reduceEqDiff, Int.reduceToNat, Nat.reduceSub, Nat.reduceAdd, Nat.reduceMul, Nat.reduceLT, Nat.reduceLeDiff, reduceCtorEq, ↓reduceIte, catT, enc0, enc1, if_pos, if_neg, ix_one, AV.ren, ren_row_ix, hV1, slcMAV, ← hV, h01])
    | (refine CWx.block (id := 0) ?_; refine CWx.loopK (ι := Nat × Nat) [0, 10, 11] (fun q => l.length - q.1) (fun q => [(12, .int .i64 (q.1 : Int)), (3, .sl 1 q.2 0 (vp l q.1).length)]) (fun q => [.row true 0 false 1 [], .row (vp l q.1).isEmpty q.2 false 1 (ix (vp l q.1)), .row false 0 false 1 (ix (orderI l))]) (fun q => q.1 ≤ l.length) (fun i => by simp only [keepA, Am.get, List.cons_append, List.nil_append, Nat.reduceEqDiff, ↓reduceIte]; exact rfl) ((0, 0)) ?_ ?_ (fun q hi => ?_); (focus ((try dsimp only) <;> (first | trivial | omega | (refine ⟨?_, ?_⟩ <;> first | omega | trivial | simp_all) | simp_all); done)); (focus (refine Fgt.mk' 3 (by simp) ?_ ?_ ?_ <;> simp [-List.map_take, -List.map_map, AV.isY, ltL_append, ix_nil, keepB, Am.get, AV.lt, ltL, lt_pts, lt_pt, lt_ixV, ltL_ix, ltL_pt, Blk.lt, ltB, vp_zero]; done)); have Hq := hi; ((have hvq := hvl q.1); (have omq := om q.1)))
    | (refine CWx.block (id := 2) ?_; refine CWx.loopK (ι := Nat) [0, 3, 6] (fun k => 1 - k) (fun k => []) (fun k => [.row true 0 false 1 [], .row false q.2 true 1 (ix V), .row false 0 false 1 (ix (orderI l))]) (fun k => k = 0) (fun i => by simp only [keepA, Am.get, List.cons_append, List.nil_append, Nat.reduceEqDiff, ↓reduceIte]; exact rfl) (0) ?_ ?_ (fun k hi => ?_); (focus ((try dsimp only) <;> (first | trivial | omega | (refine ⟨?_, ?_⟩ <;> first | omega | trivial | simp_all) | simp_all); done)); (focus (refine Fgt.mk' 3 (by simp) ?_ ?_ ?_ <;> simp [-List.map_take, -List.map_map, AV.isY, ltL_append, ix_nil, keepB, Am.get, AV.lt, ltL, lt_pts, lt_pt, lt_ixV, ltL_ix, ltL_pt, Blk.lt, ltB, ← hV]; done)); have Hk := hi; (skip))
    | refine CWx.seq ?_
    | refine CWx.block (id := 1) ?_
    | refine CWx.block (id := 3) ?_
    | refine CWx.block (id := 5) ?_
    | refine CWx.skip ?_
    | (refine CWx.exit (id := 0) ?_; (have eq : q.1 = l.length := by omega); (have hne : (vtx l).isEmpty = false := by rw [← hV]; cases V with | nil => (simp at vl; omega) | cons x xs => rfl); simp only [eq, vp_all, hne])
    | refine CWx.exit ?_
    | (refine CWx.ret fun al hal => finK_ext hal (finK_pure (.inr rfl) (by simp only [resRV, Am.get, Nat.reduceEqDiff, ↓reduceIte]; exact rfl) ?_ ?_); (focus (first | (rfl; done) | ((simp only [tupAV]; congr <;> omega); done) | (simp [tupAV, *]; done))); (focus (first | rfl | (simp [AV.allR, allRL, allRL_ix]; done))))
    | (intro al hal; refine ⟨(q.1 + 1, q.2 + 1), ?_, ?_, Fgt.ofx hal ?_⟩; (focus (first | omega | (dsimp only; omega))); (focus ((try dsimp only) <;> (first | trivial | omega | (refine ⟨?_, ?_⟩ <;> first | omega | trivial | simp_all) | simp_all); done)); (focus (refine Fgt.mk' 3 (by simp) ?_ ?_ ?_ <;> simp [-List.map_take, -List.map_map, AV.isY, ltL_append, ix_nil, keepB, Am.get, AV.lt, ltL, lt_pts, lt_pt, lt_ixV, ltL_ix, ltL_pt, Blk.lt, ltB, vp_zero, vp_t l q.1 (by omega) (by assumption)]; done)))
    | (intro al hal; refine ⟨(q.1 + 1, q.2), ?_, ?_, Fgt.ofx hal ?_⟩; (focus (first | omega | (dsimp only; omega))); (focus ((try dsimp only) <;> (first | trivial | omega | (refine ⟨?_, ?_⟩ <;> first | omega | trivial | simp_all) | simp_all); done)); (focus (refine Fgt.mk' 3 (by simp) ?_ ?_ ?_ <;> simp [-List.map_take, -List.map_map, AV.isY, ltL_append, ix_nil, keepB, Am.get, AV.lt, ltL, lt_pts, lt_pt, lt_ixV, ltL_ix, ltL_pt, Blk.lt, ltB, vp_zero, vp_f l q.1 (by omega) (by assumption)]; done)))
    | (refine CWx.ret fun al hal => finK_ext hal (finK_pure (.inr rfl) (xs := [.sv true 1 (ix h)]) (by simp [resRV, Am.get]) rfl (by simp only [AV.allR, allRL_ix, Bool.and_self])))
def hullR (l : List Pt) : List Nat × Int := if chk l ≠ 0 then ([], chk l) else if l.length = 0 then ([], 13) else (hullI l, 0)
theorem c52 (l : List Pt) (hn : l.length < 4611686018427387904) : CallsF Try.prog 52 [pts l] [] (.int .i64 (hullR l).2) [] := by
  have k := c58 l hn
  by_cases hc : chk l = 0
  · rw [hc] at k
    by_cases h0 : l.length = 0
    · have hr : hullR l = ([], 13) := by unfold hullR; rw [if_neg (by simp [hc]), if_pos h0]
      rw [hr]
      refine callsF_cwx hm hf52 (by simp [cf52]) ?_
      simp only [cf52, argsAl]
      repeat' first
        | (refine hK _ _ _ (by first | exact fun h => Bool.noConfusion h | exact fun _ => rfl) ?_; clear hK K)
        | (refine CWx.r fun K hK => ?_; simp (maxSteps := 4000000) (disch := omega) only [dr0, dr1, dr2, dr3, dr4, if_true, if_false, Option.some.injEq, Nat.reduceEqDiff, Int.reduceToNat, Nat.reduceSub, Nat.reduceAdd, Nat.reduceMul, Nat.reduceLT, Nat.reduceLeDiff, reduceCtorEq, ↓reduceIte, catT, enc0, enc1, if_pos, if_neg])
        | refine CWx.go ?_
        | (apply RCx.view (fid := 58) (caps := []) rfl rfl; (focus ((simp only [evsA, evA_t, evA_c, Am.get, Nat.reduceEqDiff, ↓reduceIte, List.nil_append, List.cons_append, List.append_nil]; repeat' first | exact viewArgs_nil | apply viewArgs_cons | exact viewG_flat (flat_pts _ _) _ | exact viewG_flat (flat_ixV _ _) _ | exact viewG_flat (flat_sv _ _) _ | exact viewG_ixT rfl (by assumption) (by omega) | exact viewG_ptsL rfl (by first | omega | (simp; done) | (simp; omega)) | exact viewG_ix rfl (by first | omega | (simp; omega)) | exact viewG_flat rfl _; done))); (focus (refine k <;> first | omega | assumption)); (focus rfl); simp (maxSteps := 4000000) (disch := omega) only [dr0, dr1, dr2, dr3, dr4, if_true, if_false, Option.some.injEq, Nat.reduceEqDiff, Int.reduceToNat, Nat.reduceSub, Nat.reduceAdd, Nat.reduceMul, Nat.reduceLT, Nat.reduceLeDiff, reduceCtorEq, ↓reduceIte, catT, enc0, enc1, if_pos, if_neg])
        | (refine gX_split (fun hb => ?_) (fun hb => ?_) <;> (try simp only [hb]) <;> (try simp only [bset0, reduceCtorEq] at hb) <;> first | omega | simp (maxSteps := 4000000) (disch := omega) only [dr0, dr1, dr2, dr3, dr4, if_true, if_false, Option.some.injEq, Nat.reduceEqDiff, Int.reduceToNat, Nat.reduceSub, Nat.reduceAdd, Nat.reduceMul, Nat.reduceLT, Nat.reduceLeDiff, reduceCtorEq, ↓reduceIte, catT, enc0, enc1, if_pos, if_neg])
        | (refine CWx.br rfl (fun hb => ?_) (fun hb => ?_) <;> first | exact Bool.noConfusion hb | (first | (simp only [bset0, reduceCtorEq] at hb; done) | ((try simp only [bset0, reduceCtorEq] at hb); first | omega | skip)))
        | (refine CWx.e fun K hK => ?_; simp (maxSteps := 4000000) (disch := omega) only [dr0, dr1, dr2, dr3, dr4, if_true, if_false, Option.some.injEq, Nat.reduceEqDiff, Int.reduceToNat, Nat.reduceSub, Nat.reduceAdd, Nat.reduceMul, Nat.reduceLT, Nat.reduceLeDiff, reduceCtorEq, ↓reduceIte, catT, enc0, enc1, if_pos, if_neg])
        | refine CWx.seq ?_
        | refine CWx.skip ?_
        | refine CWx.exit ?_
        | (refine CWx.ret fun al hal => finK_ext hal (finK_pure (.inr rfl) (by simp only [resRV, Am.get, Nat.reduceEqDiff, ↓reduceIte]; exact rfl) ?_ ?_); (focus (first | (rfl; done) | ((simp only [tupAV]; congr <;> omega); done) | (simp [tupAV, *]; done))); (focus (first | rfl | (simp [AV.allR, allRL, allRL_ix]; done))))
    · have hr : hullR l = (hullI l, 0) := by unfold hullR; rw [if_neg (by simp [hc]), if_neg h0]
      rw [hr]
      refine callsF_cwx hm hf52 (by simp [cf52]) ?_
      simp only [cf52, argsAl]
      repeat' first
        | (refine hK _ _ _ (by first | exact fun h => Bool.noConfusion h | exact fun _ => rfl) ?_; clear hK K)
        | (refine CWx.r fun K hK => ?_; simp (maxSteps := 4000000) (disch := omega) only [dr0, dr1, dr2, dr3, dr4, if_true, if_false, Option.some.injEq, Nat.reduceEqDiff, Int.reduceToNat, Nat.reduceSub, Nat.reduceAdd, Nat.reduceMul, Nat.reduceLT, Nat.reduceLeDiff, reduceCtorEq, ↓reduceIte, catT, enc0, enc1, if_pos, if_neg])
        | refine CWx.go ?_
        | (apply RCx.view (fid := 58) (caps := []) rfl rfl; (focus ((simp only [evsA, evA_t, evA_c, Am.get, Nat.reduceEqDiff, ↓reduceIte, List.nil_append, List.cons_append, List.append_nil]; repeat' first | exact viewArgs_nil | apply viewArgs_cons | exact viewG_flat (flat_pts _ _) _ | exact viewG_flat (flat_ixV _ _) _ | exact viewG_flat (flat_sv _ _) _ | exact viewG_ixT rfl (by assumption) (by omega) | exact viewG_ptsL rfl (by first | omega | (simp; done) | (simp; omega)) | exact viewG_ix rfl (by first | omega | (simp; omega)) | exact viewG_flat rfl _; done))); (focus (refine k <;> first | omega | assumption)); (focus rfl); simp (maxSteps := 4000000) (disch := omega) only [dr0, dr1, dr2, dr3, dr4, if_true, if_false, Option.some.injEq, Nat.reduceEqDiff, Int.reduceToNat, Nat.reduceSub, Nat.reduceAdd, Nat.reduceMul, Nat.reduceLT, Nat.reduceLeDiff, reduceCtorEq, ↓reduceIte, catT, enc0, enc1, if_pos, if_neg])
        | (refine gX_split (fun hb => ?_) (fun hb => ?_) <;> (try simp only [hb]) <;> (try simp only [bset0, reduceCtorEq] at hb) <;> first | omega | simp (maxSteps := 4000000) (disch := omega) only [dr0, dr1, dr2, dr3, dr4, if_true, if_false, Option.some.injEq, Nat.reduceEqDiff, Int.reduceToNat, Nat.reduceSub, Nat.reduceAdd, Nat.reduceMul, Nat.reduceLT, Nat.reduceLeDiff, reduceCtorEq, ↓reduceIte, catT, enc0, enc1, if_pos, if_neg])
        | (refine CWx.br rfl (fun hb => ?_) (fun hb => ?_) <;> first | exact Bool.noConfusion hb | (first | (simp only [bset0, reduceCtorEq] at hb; done) | ((try simp only [bset0, reduceCtorEq] at hb); first | omega | skip)))
        | (refine CWx.e fun K hK => ?_; simp (maxSteps := 4000000) (disch := omega) only [dr0, dr1, dr2, dr3, dr4, if_true, if_false, Option.some.injEq, Nat.reduceEqDiff, Int.reduceToNat, Nat.reduceSub, Nat.reduceAdd, Nat.reduceMul, Nat.reduceLT, Nat.reduceLeDiff, reduceCtorEq, ↓reduceIte, catT, enc0, enc1, if_pos, if_neg])
        | refine CWx.seq ?_
        | refine CWx.skip ?_
        | refine CWx.exit ?_
        | (refine CWx.ret fun al hal => finK_ext hal (finK_pure (.inr rfl) (by simp only [resRV, Am.get, Nat.reduceEqDiff, ↓reduceIte]; exact rfl) ?_ ?_); (focus (first | (rfl; done) | ((simp only [tupAV]; congr <;> omega); done) | (simp [tupAV, *]; done))); (focus (first | rfl | (simp [AV.allR, allRL, allRL_ix]; done))))
  · have hr : hullR l = ([], chk l) := by unfold hullR; rw [if_pos hc]
    rw [hr]
    refine callsF_cwx hm hf52 (by simp [cf52]) ?_
    simp only [cf52, argsAl]
    repeat' first
      | (refine hK _ _ _ (by first | exact fun h => Bool.noConfusion h | exact fun _ => rfl) ?_; clear hK K)
      | (refine CWx.r fun K hK => ?_; simp (maxSteps := 4000000) (disch := omega) only [dr0, dr1, dr2, dr3, dr4, if_true, if_false, Option.some.injEq, Nat.reduceEqDiff, Int.reduceToNat, Nat.reduceSub, Nat.reduceAdd, Nat.reduceMul, Nat.reduceLT, Nat.reduceLeDiff, reduceCtorEq, ↓reduceIte, catT, enc0, enc1, if_pos, if_neg])
      | refine CWx.go ?_
      | (apply RCx.view (fid := 58) (caps := []) rfl rfl; (focus ((simp only [evsA, evA_t, evA_c, Am.get, Nat.reduceEqDiff, ↓reduceIte, List.nil_append, List.cons_append, List.append_nil]; repeat' first | exact viewArgs_nil | apply viewArgs_cons | exact viewG_flat (flat_pts _ _) _ | exact viewG_flat (flat_ixV _ _) _ | exact viewG_flat (flat_sv _ _) _ | exact viewG_ixT rfl (by assumption) (by omega) | exact viewG_ptsL rfl (by first | omega | (simp; done) | (simp; omega)) | exact viewG_ix rfl (by first | omega | (simp; omega)) | exact viewG_flat rfl _; done))); (focus (refine k <;> first | omega | assumption)); (focus rfl); simp (maxSteps := 4000000) (disch := omega) only [dr0, dr1, dr2, dr3, dr4, if_true, if_false, Option.some.injEq, Nat.reduceEqDiff, Int.reduceToNat, Nat.reduceSub, Nat.reduceAdd, Nat.reduceMul, Nat.reduceLT, Nat.reduceLeDiff, reduceCtorEq, ↓reduceIte, catT, enc0, enc1, if_pos, if_neg])
      | (refine gX_split (fun hb => ?_) (fun hb => ?_) <;> (try simp only [hb]) <;> (try simp only [bset0, reduceCtorEq] at hb) <;> simp (maxSteps := 4000000) (disch := omega) only [dr0, dr1, dr2, dr3, dr4, if_true, if_false, Option.some.injEq, Nat.reduceEqDiff, Int.reduceToNat, Nat.reduceSub, Nat.reduceAdd, Nat.reduceMul, Nat.reduceLT, Nat.reduceLeDiff, reduceCtorEq, ↓reduceIte, catT, enc0, enc1, if_pos, if_neg])
      | (refine CWx.br rfl (fun hb => ?_) (fun hb => ?_) <;> first | exact Bool.noConfusion hb | (first | (simp only [bset0, reduceCtorEq] at hb; done) | ((try simp only [bset0, reduceCtorEq] at hb); first | contradiction | skip)))
      | (refine CWx.e fun K hK => ?_; simp (maxSteps := 4000000) (disch := omega) only [dr0, dr1, dr2, dr3, dr4, if_true, if_false, Option.some.injEq, Nat.reduceEqDiff, Int.reduceToNat, Nat.reduceSub, Nat.reduceAdd, Nat.reduceMul, Nat.reduceLT, Nat.reduceLeDiff, reduceCtorEq, ↓reduceIte, catT, enc0, enc1, if_pos, if_neg])
      | refine CWx.seq ?_
      | refine CWx.skip ?_
      | refine CWx.exit ?_
      | (refine CWx.ret fun al hal => finK_ext hal (finK_pure (.inr rfl) (by simp only [resRV, Am.get, Nat.reduceEqDiff, ↓reduceIte]; exact rfl) ?_ ?_); (focus (first | (rfl; done) | ((simp only [tupAV]; congr <;> omega); done) | (simp [tupAV, *]; done))); (focus (first | rfl | (simp [AV.allR, allRL, allRL_ix]; done))))
/-- A list of numbers that is handed back. -/
def RetIx (r : AV) (bs : List Blk) (v : List Nat) : Prop :=
  (∃ (nl : Bool) (zs : List Nat), r = .sl 0 0 0 v.length ∧ bs = [.row nl 0 false 1 (ix zs)] ∧ zs.take v.length = v ∧ v.length ≤ zs.length) ∨ (r = .sv true 1 (ix v) ∧ bs = [])
theorem renL_ix (σ : Nat → Nat) (v : List Nat) : renL σ (ix v) = ix v := renL_id (ix v) (ltL_ix _ _)
theorem c13' (l : List Pt) (hn : l.length < 4611686018427387904) (h8 : chk l = 0 → l.length < 20) : ∃ (nl : Bool) (zs : List Nat), zs.take (hullR l).1.length = (hullR l).1 ∧ (hullR l).1.length ≤ zs.length ∧ CallsF Try.prog 13 [pts l] [] (.tup [.sl 0 0 0 (hullR l).1.length, .int .i64 (hullR l).2]) [.row nl 0 false 1 (ix zs)] := by
  have k := c50 l hn
  by_cases hc : chk l = 0
  · by_cases h0 : l.length = 0
    · rw [hc] at k
      have hr : hullR l = ([], 13) := by unfold hullR; rw [if_neg (by simp [hc]), if_pos h0]
      rw [hr]
      refine ⟨true, [], rfl, Nat.le_refl _, ?_⟩
      refine callsF_cwx hm hf13 (by simp [cf13]) ?_
      simp only [cf13, argsAl]
      repeat' first
        | (refine hK _ _ _ (by first | exact fun h => Bool.noConfusion h | exact fun _ => rfl) ?_; clear hK K)
        | (refine CWx.r fun K hK => ?_; simp (maxSteps := 4000000) (disch := omega) only [dr0, dr1, dr2, dr3, dr4, if_true, if_false, Option.some.injEq, Nat.reduceEqDiff, Int.reduceToNat, Nat.reduceSub, Nat.reduceAdd, Nat.reduceMul, Nat.reduceLT, Nat.reduceLeDiff, reduceCtorEq, ↓reduceIte, catT, enc0, enc1, if_pos, if_neg])
        | refine CWx.go ?_
        | (apply RCx.view (fid := 50) (caps := []) rfl rfl; (focus ((simp only [evsA, evA_t, evA_c, Am.get, Nat.reduceEqDiff, ↓reduceIte, List.nil_append, List.cons_append, List.append_nil]; repeat' first | exact viewArgs_nil | apply viewArgs_cons | exact viewG_flat (flat_pts _ _) _ | exact viewG_flat (flat_ixV _ _) _ | exact viewG_flat (flat_sv _ _) _ | exact viewG_ixT rfl (by assumption) (by omega) | exact viewG_ptsL rfl (by first | omega | (simp; done) | (simp; omega)) | exact viewG_ix rfl (by first | omega | (simp; omega)) | exact viewG_flat rfl _; done))); (focus (refine k <;> first | omega | assumption)); (focus rfl); simp (maxSteps := 4000000) (disch := omega) only [dr0, dr1, dr2, dr3, dr4, if_true, if_false, Option.some.injEq, Nat.reduceEqDiff, Int.reduceToNat, Nat.reduceSub, Nat.reduceAdd, Nat.reduceMul, Nat.reduceLT, Nat.reduceLeDiff, reduceCtorEq, ↓reduceIte, catT, enc0, enc1, if_pos, if_neg])
        | (refine gX_split (fun hb => ?_) (fun hb => ?_) <;> (try simp only [hb]) <;> (try simp only [bset0, reduceCtorEq] at hb) <;> first | omega | simp (maxSteps := 4000000) (disch := omega) only [dr0, dr1, dr2, dr3, dr4, if_true, if_false, Option.some.injEq, Nat.reduceEqDiff, Int.reduceToNat, Nat.reduceSub, Nat.reduceAdd, Nat.reduceMul, Nat.reduceLT, Nat.reduceLeDiff, reduceCtorEq, ↓reduceIte, catT, enc0, enc1, if_pos, if_neg])
        | (refine CWx.br rfl (fun hb => ?_) (fun hb => ?_) <;> first | exact Bool.noConfusion hb | (first | (simp only [bset0, reduceCtorEq] at hb; done) | ((try simp only [bset0, reduceCtorEq] at hb); first | omega | skip)))
        | (refine CWx.e fun K hK => ?_; simp (maxSteps := 4000000) (disch := omega) only [dr0, dr1, dr2, dr3, dr4, if_true, if_false, Option.some.injEq, Nat.reduceEqDiff, Int.reduceToNat, Nat.reduceSub, Nat.reduceAdd, Nat.reduceMul, Nat.reduceLT, Nat.reduceLeDiff, reduceCtorEq, ↓reduceIte, catT, enc0, enc1, if_pos, if_neg])
        | refine CWx.seq ?_
        | refine CWx.skip ?_
        | refine CWx.exit ?_
        | (refine CWx.ret fun al hal => finK_ext hal (finK_pure (.inr rfl) (by simp only [resRV, Am.get, Nat.reduceEqDiff, ↓reduceIte]; exact rfl) ?_ ?_); (focus (first | (rfl; done) | ((simp only [tupAV]; congr <;> omega); done) | (simp [tupAV, *]; done))); (focus (first | rfl | (simp [AV.allR, allRL, allRL_ix]; done))))
        | (refine CWx.ret fun al hal => finK_ext hal (finK_new (b := 0) (.inr rfl) (by simp only [resRV, Am.get, Nat.reduceEqDiff, ↓reduceIte]; exact rfl) rfl (by first | exact allRL_ix _ _ _ | exact allRL_pts _ _ _ | rfl) ?_ ?_) <;> (simp [tupAV, AV.allR, allRL, sigP, AV.mapR, mapRL, sigF]; done))
        | (refine CWx.ret fun al hal => finK_ext hal (finK_new (b := 1) (.inr rfl) (by simp only [resRV, Am.get, Nat.reduceEqDiff, ↓reduceIte]; exact rfl) rfl (by first | exact allRL_ix _ _ _ | exact allRL_pts _ _ _ | rfl) ?_ ?_) <;> (simp [tupAV, AV.allR, allRL, sigP, AV.mapR, mapRL, sigF]; done))
        | (refine CWx.ret fun al hal => finK_ext hal (finK_new (b := 2) (.inr rfl) (by simp only [resRV, Am.get, Nat.reduceEqDiff, ↓reduceIte]; exact rfl) rfl (by first | exact allRL_ix _ _ _ | exact allRL_pts _ _ _ | rfl) ?_ ?_) <;> (simp [tupAV, AV.allR, allRL, sigP, AV.mapR, mapRL, sigF]; done))
    · have hr : hullR l = (hullI l, 0) := by unfold hullR; rw [if_neg (by simp [hc]), if_neg h0]
      rw [hr]
      obtain ⟨zs, z1, z2, z3⟩ := c13 l (by omega) (h8 hc) (chk_ok hc)
      exact ⟨false, zs, z1, z2, z3⟩
  · have hr : hullR l = ([], chk l) := by unfold hullR; rw [if_pos hc]
    rw [hr]
    refine ⟨true, [], rfl, Nat.le_refl _, ?_⟩
    refine callsF_cwx hm hf13 (by simp [cf13]) ?_
    simp only [cf13, argsAl]
    repeat' first
      | (refine hK _ _ _ (by first | exact fun h => Bool.noConfusion h | exact fun _ => rfl) ?_; clear hK K)
      | (refine CWx.r fun K hK => ?_; simp (maxSteps := 4000000) (disch := omega) only [dr0, dr1, dr2, dr3, dr4, if_true, if_false, Option.some.injEq, Nat.reduceEqDiff, Int.reduceToNat, Nat.reduceSub, Nat.reduceAdd, Nat.reduceMul, Nat.reduceLT, Nat.reduceLeDiff, reduceCtorEq, ↓reduceIte, catT, enc0, enc1, if_pos, if_neg])
      | refine CWx.go ?_
      | (apply RCx.view (fid := 50) (caps := []) rfl rfl; (focus ((simp only [evsA, evA_t, evA_c, Am.get, Nat.reduceEqDiff, ↓reduceIte, List.nil_append, List.cons_append, List.append_nil]; repeat' first | exact viewArgs_nil | apply viewArgs_cons | exact viewG_flat (flat_pts _ _) _ | exact viewG_flat (flat_ixV _ _) _ | exact viewG_flat (flat_sv _ _) _ | exact viewG_ixT rfl (by assumption) (by omega) | exact viewG_ptsL rfl (by first | omega | (simp; done) | (simp; omega)) | exact viewG_ix rfl (by first | omega | (simp; omega)) | exact viewG_flat rfl _; done))); (focus (refine k <;> first | omega | assumption)); (focus rfl); simp (maxSteps := 4000000) (disch := omega) only [dr0, dr1, dr2, dr3, dr4, if_true, if_false, Option.some.injEq, Nat.reduceEqDiff, Int.reduceToNat, Nat.reduceSub, Nat.reduceAdd, Nat.reduceMul, Nat.reduceLT, Nat.reduceLeDiff, reduceCtorEq, ↓reduceIte, catT, enc0, enc1, if_pos, if_neg])
      | (refine gX_split (fun hb => ?_) (fun hb => ?_) <;> (try simp only [hb]) <;> (try simp only [bset0, reduceCtorEq] at hb) <;> simp (maxSteps := 4000000) (disch := omega) only [dr0, dr1, dr2, dr3, dr4, if_true, if_false, Option.some.injEq, Nat.reduceEqDiff, Int.reduceToNat, Nat.reduceSub, Nat.reduceAdd, Nat.reduceMul, Nat.reduceLT, Nat.reduceLeDiff, reduceCtorEq, ↓reduceIte, catT, enc0, enc1, if_pos, if_neg])
      | (refine CWx.br rfl (fun hb => ?_) (fun hb => ?_) <;> first | exact Bool.noConfusion hb | (first | (simp only [bset0, reduceCtorEq] at hb; done) | ((try simp only [bset0, reduceCtorEq] at hb); first | contradiction | skip)))
      | (refine CWx.e fun K hK => ?_; simp (maxSteps := 4000000) (disch := omega) only [dr0, dr1, dr2, dr3, dr4, if_true, if_false, Option.some.injEq, Nat.reduceEqDiff, Int.reduceToNat, Nat.reduceSub, Nat.reduceAdd, Nat.reduceMul, Nat.reduceLT, Nat.reduceLeDiff, reduceCtorEq, ↓reduceIte, catT, enc0, enc1, if_pos, if_neg])
      | refine CWx.seq ?_
      | refine CWx.skip ?_
      | refine CWx.exit ?_
      | (refine CWx.ret fun al hal => finK_ext hal (finK_pure (.inr rfl) (by simp only [resRV, Am.get, Nat.reduceEqDiff, ↓reduceIte]; exact rfl) ?_ ?_); (focus (first | (rfl; done) | ((simp only [tupAV]; congr <;> omega); done) | (simp [tupAV, *]; done))); (focus (first | rfl | (simp [AV.allR, allRL, allRL_ix]; done))))
      | (refine CWx.ret fun al hal => finK_ext hal (finK_new (b := 0) (.inr rfl) (by simp only [resRV, Am.get, Nat.reduceEqDiff, ↓reduceIte]; exact rfl) rfl (by first | exact allRL_ix _ _ _ | exact allRL_pts _ _ _ | rfl) ?_ ?_) <;> (simp [tupAV, AV.allR, allRL, sigP, AV.mapR, mapRL, sigF]; done))
      | (refine CWx.ret fun al hal => finK_ext hal (finK_new (b := 1) (.inr rfl) (by simp only [resRV, Am.get, Nat.reduceEqDiff, ↓reduceIte]; exact rfl) rfl (by first | exact allRL_ix _ _ _ | exact allRL_pts _ _ _ | rfl) ?_ ?_) <;> (simp [tupAV, AV.allR, allRL, sigP, AV.mapR, mapRL, sigF]; done))
      | (refine CWx.ret fun al hal => finK_ext hal (finK_new (b := 2) (.inr rfl) (by simp only [resRV, Am.get, Nat.reduceEqDiff, ↓reduceIte]; exact rfl) rfl (by first | exact allRL_ix _ _ _ | exact allRL_pts _ _ _ | rfl) ?_ ?_) <;> (simp [tupAV, AV.allR, allRL, sigP, AV.mapR, mapRL, sigF]; done))
theorem c14 (l : List Pt) (hn : l.length < 4611686018427387904) (h8 : chk l = 0 → l.length ≤ 8) : ∃ r bs, RetIx r bs (hullR l).1 ∧ CallsF Try.prog 14 [pts l] [] (.tup [r, .int .i64 (hullR l).2]) bs := by
  have k := c52 l hn
  by_cases hc : chk l = 0
  · by_cases h0 : l.length = 0
    · have hr : hullR l = ([], 13) := by unfold hullR; rw [if_neg (by simp [hc]), if_pos h0]
      rw [hr] at k ⊢
      refine ⟨_, _, .inl ⟨true, [], rfl, rfl, rfl, Nat.le_refl _⟩, ?_⟩
      refine callsF_cwx hm hf14 (by simp [cf14]) ?_
      simp only [cf14, argsAl]
      repeat' first
        | (refine hK _ _ _ (by first | exact fun h => Bool.noConfusion h | exact fun _ => rfl) ?_; clear hK K)
        | (refine CWx.r fun K hK => ?_; simp (maxSteps := 4000000) (disch := omega) only [dr0, dr1, dr2, dr3, dr4, if_true, if_false, Option.some.injEq, Nat.reduceEqDiff, Int.reduceToNat, Nat.reduceSub, Nat.reduceAdd, Nat.reduceMul, Nat.reduceLT, Nat.reduceLeDiff, reduceCtorEq, ↓reduceIte, catT, enc0, enc1, if_pos, if_neg])
        | refine CWx.go ?_
        | (apply RCx.view (fid := 52) (caps := []) rfl rfl; (focus ((simp only [evsA, evA_t, evA_c, Am.get, Nat.reduceEqDiff, ↓reduceIte, List.nil_append, List.cons_append, List.append_nil]; repeat' first | exact viewArgs_nil | apply viewArgs_cons | exact viewG_flat (flat_pts _ _) _ | exact viewG_flat (flat_ixV _ _) _ | exact viewG_flat (flat_sv _ _) _ | exact viewG_ixT rfl (by assumption) (by omega) | exact viewG_ptsL rfl (by first | omega | (simp; done) | (simp; omega)) | exact viewG_ix rfl (by first | omega | (simp; omega)) | exact viewG_flat rfl _; done))); (focus (refine k <;> first | omega | assumption)); (focus rfl); simp (maxSteps := 4000000) (disch := omega) only [dr0, dr1, dr2, dr3, dr4, if_true, if_false, Option.some.injEq, Nat.reduceEqDiff, Int.reduceToNat, Nat.reduceSub, Nat.reduceAdd, Nat.reduceMul, Nat.reduceLT, Nat.reduceLeDiff, reduceCtorEq, ↓reduceIte, catT, enc0, enc1, if_pos, if_neg])
        | (refine gX_split (fun hb => ?_) (fun hb => ?_) <;> (try simp only [hb]) <;> (try simp only [bset0, reduceCtorEq] at hb) <;> simp (maxSteps := 4000000) (disch := omega) only [dr0, dr1, dr2, dr3, dr4, if_true, if_false, Option.some.injEq, Nat.reduceEqDiff, Int.reduceToNat, Nat.reduceSub, Nat.reduceAdd, Nat.reduceMul, Nat.reduceLT, Nat.reduceLeDiff, reduceCtorEq, ↓reduceIte, catT, enc0, enc1, if_pos, if_neg])
        | (refine CWx.br rfl (fun hb => ?_) (fun hb => ?_) <;> first | exact Bool.noConfusion hb | (first | (simp only [bset0, reduceCtorEq] at hb; done) | ((try simp only [bset0, reduceCtorEq] at hb); first | contradiction | skip)))
        | (refine CWx.e fun K hK => ?_; simp (maxSteps := 4000000) (disch := omega) only [dr0, dr1, dr2, dr3, dr4, if_true, if_false, Option.some.injEq, Nat.reduceEqDiff, Int.reduceToNat, Nat.reduceSub, Nat.reduceAdd, Nat.reduceMul, Nat.reduceLT, Nat.reduceLeDiff, reduceCtorEq, ↓reduceIte, catT, enc0, enc1, if_pos, if_neg])
        | refine CWx.seq ?_
        | refine CWx.skip ?_
        | refine CWx.exit ?_
        | (refine CWx.ret fun al hal => finK_ext hal (finK_pure (.inr rfl) (by simp only [resRV, Am.get, Nat.reduceEqDiff, ↓reduceIte]; exact rfl) ?_ ?_); (focus (first | (rfl; done) | ((simp only [tupAV]; congr <;> omega); done) | (simp [tupAV, *]; done))); (focus (first | rfl | (simp [AV.allR, allRL, allRL_ix]; done))))
        | (refine CWx.ret fun al hal => finK_ext hal (finK_new (b := 0) (.inr rfl) (by simp only [resRV, Am.get, Nat.reduceEqDiff, ↓reduceIte]; exact rfl) rfl (by first | exact allRL_ix _ _ _ | exact allRL_pts _ _ _ | rfl) ?_ ?_) <;> (simp [tupAV, AV.allR, allRL, sigP, AV.mapR, mapRL, sigF]; done))
        | (refine CWx.ret fun al hal => finK_ext hal (finK_new (b := 1) (.inr rfl) (by simp only [resRV, Am.get, Nat.reduceEqDiff, ↓reduceIte]; exact rfl) rfl (by first | exact allRL_ix _ _ _ | exact allRL_pts _ _ _ | rfl) ?_ ?_) <;> (simp [tupAV, AV.allR, allRL, sigP, AV.mapR, mapRL, sigF]; done))
        | (refine CWx.ret fun al hal => finK_ext hal (finK_new (b := 2) (.inr rfl) (by simp only [resRV, Am.get, Nat.reduceEqDiff, ↓reduceIte]; exact rfl) rfl (by first | exact allRL_ix _ _ _ | exact allRL_pts _ _ _ | rfl) ?_ ?_) <;> (simp [tupAV, AV.allR, allRL, sigP, AV.mapR, mapRL, sigF]; done))
    · have hr : hullR l = (hullI l, 0) := by unfold hullR; rw [if_neg (by simp [hc]), if_neg h0]
      rw [hr] at k ⊢
      have ne := (hullT l (by omega)).ne
      by_cases h1 : (hullI l).length = 1
      · have k53 := c53a l (by omega) (h8 hc) (chk_ok hc) h1
        refine ⟨_, _, .inr ⟨rfl, rfl⟩, ?_⟩
        refine callsF_cwx hm hf14 (by simp [cf14]) ?_
        simp only [cf14, argsAl]
        repeat' first
          | (refine hK _ _ _ (by first | exact fun h => Bool.noConfusion h | exact fun _ => rfl) ?_; clear hK K)
          | (refine CWx.r fun K hK => ?_; simp (maxSteps := 4000000) (disch := omega) only [dr0, dr1, dr2, dr3, dr4, if_true, if_false, Option.some.injEq, Nat.reduceEqDiff, Int.reduceToNat, Nat.reduceSub, Nat.reduceAdd, Nat.reduceMul, Nat.reduceLT, Nat.reduceLeDiff, reduceCtorEq, ↓reduceIte, catT, enc0, enc1, if_pos, if_neg, AV.ren, renL_ix, frW])
          | refine CWx.go ?_
          | (apply RCx.view (fid := 52) (caps := []) rfl rfl; (focus ((simp only [evsA, evA_t, evA_c, Am.get, Nat.reduceEqDiff, ↓reduceIte, List.nil_append, List.cons_append, List.append_nil]; repeat' first | exact viewArgs_nil | apply viewArgs_cons | exact viewG_flat (flat_pts _ _) _ | exact viewG_flat (flat_ixV _ _) _ | exact viewG_flat (flat_sv _ _) _ | exact viewG_ixT rfl (by assumption) (by omega) | exact viewG_ptsL rfl (by first | omega | (simp; done) | (simp; omega)) | exact viewG_ix rfl (by first | omega | (simp; omega)) | exact viewG_flat rfl _; done))); (focus (refine k <;> first | omega | assumption)); (focus rfl); simp (maxSteps := 4000000) (disch := omega) only [dr0, dr1, dr2, dr3, dr4, if_true, if_false, Option.some.injEq, Nat.reduceEqDiff, Int.reduceToNat, Nat.reduceSub, Nat.reduceAdd, Nat.reduceMul, Nat.reduceLT, Nat.reduceLeDiff, reduceCtorEq, ↓reduceIte, catT, enc0, enc1, if_pos, if_neg, AV.ren, renL_ix, frW])
          | (refine RCx.plainRs (fid := 53) (caps := []) (args := [pts l]) rfl rfl (by simp only [ltL, lt_pts, Bool.and_self]) k53 rfl ?_; simp (maxSteps := 4000000) (disch := omega) only [dr0, dr1, dr2, dr3, dr4, if_true, if_false, Option.some.injEq, Nat.reduceEqDiff, Int.reduceToNat, Nat.reduceSub, Nat.reduceAdd, Nat.reduceMul, Nat.reduceLT, Nat.reduceLeDiff, reduceCtorEq, ↓reduceIte, catT, enc0, enc1, if_pos, if_neg, AV.ren, renL_ix, frW])
          | (refine gX_split (fun hb => ?_) (fun hb => ?_) <;> (try simp only [hb]) <;> (try simp only [bset0, reduceCtorEq] at hb) <;> simp (maxSteps := 4000000) (disch := omega) only [dr0, dr1, dr2, dr3, dr4, if_true, if_false, Option.some.injEq, Nat.reduceEqDiff, Int.reduceToNat, Nat.reduceSub, Nat.reduceAdd, Nat.reduceMul, Nat.reduceLT, Nat.reduceLeDiff, reduceCtorEq, ↓reduceIte, catT, enc0, enc1, if_pos, if_neg, AV.ren, renL_ix, frW])
          | (refine CWx.br rfl (fun hb => ?_) (fun hb => ?_) <;> first | exact Bool.noConfusion hb | (first | (simp only [bset0, reduceCtorEq] at hb; done) | ((try simp only [bset0, reduceCtorEq] at hb); first | contradiction | skip)))
          | (refine CWx.e fun K hK => ?_; simp (maxSteps := 4000000) (disch := omega) only [dr0, dr1, dr2, dr3, dr4, if_true, if_false, Option.some.injEq, Nat.reduceEqDiff, Int.reduceToNat, Nat.reduceSub, Nat.reduceAdd, Nat.reduceMul, Nat.reduceLT, Nat.reduceLeDiff, reduceCtorEq, ↓reduceIte, catT, enc0, enc1, if_pos, if_neg, AV.ren, renL_ix, frW])
          | refine CWx.seq ?_
          | refine CWx.skip ?_
          | refine CWx.exit ?_
          | (refine CWx.ret fun al hal => finK_ext hal (finK_pure (.inr rfl) (by simp only [resRV, Am.get, Nat.reduceEqDiff, ↓reduceIte]; exact rfl) ?_ ?_); (focus (first | (rfl; done) | ((simp only [tupAV]; congr <;> omega); done) | (simp [tupAV, *]; done))); (focus (first | rfl | (simp [AV.allR, allRL, allRL_ix]; done))))
          | (refine CWx.ret fun al hal => finK_ext hal (finK_pure (.inr rfl) (by simp only [resRV, Am.get, Nat.reduceEqDiff, ↓reduceIte]; exact rfl) rfl (by simp only [tupAV, AV.allR, allRL, Bool.and_true, Bool.true_and]; exact allRL_ix _ _ _)))
      · have k53 := c53b l (h8 hc) (chk_ok hc) (by omega)
        refine ⟨_, _, .inl ⟨false, hullI l, rfl, rfl, List.take_of_length_le (Nat.le_refl _), Nat.le_refl _⟩, ?_⟩
        refine callsF_cwx hm hf14 (by simp [cf14]) ?_
        simp only [cf14, argsAl]
        repeat' first
          | (refine hK _ _ _ (by first | exact fun h => Bool.noConfusion h | exact fun _ => rfl) ?_; clear hK K)
          | (refine CWx.r fun K hK => ?_; simp (maxSteps := 4000000) (disch := omega) only [dr0, dr1, dr2, dr3, dr4, if_true, if_false, Option.some.injEq, Nat.reduceEqDiff, Int.reduceToNat, Nat.reduceSub, Nat.reduceAdd, Nat.reduceMul, Nat.reduceLT, Nat.reduceLeDiff, reduceCtorEq, ↓reduceIte, catT, enc0, enc1, if_pos, if_neg, AV.ren, ren_row_ix])
          | refine CWx.go ?_
          | (apply RCx.view (fid := 52) (caps := []) rfl rfl; (focus ((simp only [evsA, evA_t, evA_c, Am.get, Nat.reduceEqDiff, ↓reduceIte, List.nil_append, List.cons_append, List.append_nil]; repeat' first | exact viewArgs_nil | apply viewArgs_cons | exact viewG_flat (flat_pts _ _) _ | exact viewG_flat (flat_ixV _ _) _ | exact viewG_flat (flat_sv _ _) _ | exact viewG_ixT rfl (by assumption) (by omega) | exact viewG_ptsL rfl (by first | omega | (simp; done) | (simp; omega)) | exact viewG_ix rfl (by first | omega | (simp; omega)) | exact viewG_flat rfl _; done))); (focus (refine k <;> first | omega | assumption)); (focus rfl); simp (maxSteps := 4000000) (disch := omega) only [dr0, dr1, dr2, dr3, dr4, if_true, if_false, Option.some.injEq, Nat.reduceEqDiff, Int.reduceToNat, Nat.reduceSub, Nat.reduceAdd, Nat.reduceMul, Nat.reduceLT, Nat.reduceLeDiff, reduceCtorEq, ↓reduceIte, catT, enc0, enc1, if_pos, if_neg, AV.ren, ren_row_ix])
          | (refine RCx.viewR (fid := 53) (caps := []) rfl rfl (viewArgs_flat1 (flat_pts l 2)) k53 (by simp [AV.clean, clean_ix]) ?_; simp (maxSteps := 4000000) (disch := omega) only [dr0, dr1, dr2, dr3, dr4, if_true, if_false, Option.some.injEq, Nat.reduceEqDiff, Int.reduceToNat, Nat.reduceSub, Nat.reduceAdd, Nat.reduceMul, Nat.reduceLT, Nat.reduceLeDiff, reduceCtorEq, ↓reduceIte, catT, enc0, enc1, if_pos, if_neg, AV.ren, ren_row_ix])
          | (refine gX_split (fun hb => ?_) (fun hb => ?_) <;> (try simp only [hb]) <;> (try simp only [bset0, reduceCtorEq] at hb) <;> simp (maxSteps := 4000000) (disch := omega) only [dr0, dr1, dr2, dr3, dr4, if_true, if_false, Option.some.injEq, Nat.reduceEqDiff, Int.reduceToNat, Nat.reduceSub, Nat.reduceAdd, Nat.reduceMul, Nat.reduceLT, Nat.reduceLeDiff, reduceCtorEq, ↓reduceIte, catT, enc0, enc1, if_pos, if_neg, AV.ren, ren_row_ix])
          | (refine CWx.br rfl (fun hb => ?_) (fun hb => ?_) <;> first | exact Bool.noConfusion hb | (first | (simp only [bset0, reduceCtorEq] at hb; done) | ((try simp only [bset0, reduceCtorEq] at hb); first | contradiction | skip)))
          | (refine CWx.e fun K hK => ?_; simp (maxSteps := 4000000) (disch := omega) only [dr0, dr1, dr2, dr3, dr4, if_true, if_false, Option.some.injEq, Nat.reduceEqDiff, Int.reduceToNat, Nat.reduceSub, Nat.reduceAdd, Nat.reduceMul, Nat.reduceLT, Nat.reduceLeDiff, reduceCtorEq, ↓reduceIte, catT, enc0, enc1, if_pos, if_neg, AV.ren, ren_row_ix])
          | refine CWx.seq ?_
          | refine CWx.skip ?_
          | refine CWx.exit ?_
          | (refine CWx.ret fun al hal => finK_ext hal (finK_pure (.inr rfl) (by simp only [resRV, Am.get, Nat.reduceEqDiff, ↓reduceIte]; exact rfl) ?_ ?_); (focus (first | (rfl; done) | ((simp only [tupAV]; congr <;> omega); done) | (simp [tupAV, *]; done))); (focus (first | rfl | (simp [AV.allR, allRL, allRL_ix]; done))))
          | (refine CWx.ret fun al hal => finK_ext hal (finK_new (b := 1) (.inr rfl) (by simp only [resRV, Am.get, Nat.reduceEqDiff, ↓reduceIte]; exact rfl) rfl (by first | exact allRL_ix _ _ _ | exact allRL_pts _ _ _ | rfl) ?_ ?_) <;> (simp [tupAV, AV.allR, allRL, sigP, AV.mapR, mapRL, sigF]; done))
  · have hr : hullR l = ([], chk l) := by unfold hullR; rw [if_pos hc]
    rw [hr] at k ⊢
    refine ⟨_, _, .inl ⟨true, [], rfl, rfl, rfl, Nat.le_refl _⟩, ?_⟩
    refine callsF_cwx hm hf14 (by simp [cf14]) ?_
    simp only [cf14, argsAl]
    repeat' first
      | (refine hK _ _ _ (by first | exact fun h => Bool.noConfusion h | exact fun _ => rfl) ?_; clear hK K)
      | (refine CWx.r fun K hK => ?_; simp (maxSteps := 4000000) (disch := omega) only [dr0, dr1, dr2, dr3, dr4, if_true, if_false, Option.some.injEq, Nat.reduceEqDiff, Int.reduceToNat, Nat.reduceSub, Nat.reduceAdd, Nat.reduceMul, Nat.reduceLT, Nat.reduceLeDiff, reduceCtorEq, ↓reduceIte, catT, enc0, enc1, if_pos, if_neg])
      | refine CWx.go ?_
      | (apply RCx.view (fid := 52) (caps := []) rfl rfl; (focus ((simp only [evsA, evA_t, evA_c, Am.get, Nat.reduceEqDiff, ↓reduceIte, List.nil_append, List.cons_append, List.append_nil]; repeat' first | exact viewArgs_nil | apply viewArgs_cons | exact viewG_flat (flat_pts _ _) _ | exact viewG_flat (flat_ixV _ _) _ | exact viewG_flat (flat_sv _ _) _ | exact viewG_ixT rfl (by assumption) (by omega) | exact viewG_ptsL rfl (by first | omega | (simp; done) | (simp; omega)) | exact viewG_ix rfl (by first | omega | (simp; omega)) | exact viewG_flat rfl _; done))); (focus (refine k <;> first | omega | assumption)); (focus rfl); simp (maxSteps := 4000000) (disch := omega) only [dr0, dr1, dr2, dr3, dr4, if_true, if_false, Option.some.injEq, Nat.reduceEqDiff, Int.reduceToNat, Nat.reduceSub, Nat.reduceAdd, Nat.reduceMul, Nat.reduceLT, Nat.reduceLeDiff, reduceCtorEq, ↓reduceIte, catT, enc0, enc1, if_pos, if_neg])
      | (refine gX_split (fun hb => ?_) (fun hb => ?_) <;> (try simp only [hb]) <;> (try simp only [bset0, reduceCtorEq] at hb) <;> simp (maxSteps := 4000000) (disch := omega) only [dr0, dr1, dr2, dr3, dr4, if_true, if_false, Option.some.injEq, Nat.reduceEqDiff, Int.reduceToNat, Nat.reduceSub, Nat.reduceAdd, Nat.reduceMul, Nat.reduceLT, Nat.reduceLeDiff, reduceCtorEq, ↓reduceIte, catT, enc0, enc1, if_pos, if_neg])
      | (refine CWx.br rfl (fun hb => ?_) (fun hb => ?_) <;> first | exact Bool.noConfusion hb | (first | (simp only [bset0, reduceCtorEq] at hb; done) | ((try simp only [bset0, reduceCtorEq] at hb); first | contradiction | skip)))
      | (refine CWx.e fun K hK => ?_; simp (maxSteps := 4000000) (disch := omega) only [dr0, dr1, dr2, dr3, dr4, if_true, if_false, Option.some.injEq, Nat.reduceEqDiff, Int.reduceToNat, Nat.reduceSub, Nat.reduceAdd, Nat.reduceMul, Nat.reduceLT, Nat.reduceLeDiff, reduceCtorEq, ↓reduceIte, catT, enc0, enc1, if_pos, if_neg])
      | refine CWx.seq ?_
      | refine CWx.skip ?_
      | refine CWx.exit ?_
      | (refine CWx.ret fun al hal => finK_ext hal (finK_pure (.inr rfl) (by simp only [resRV, Am.get, Nat.reduceEqDiff, ↓reduceIte]; exact rfl) ?_ ?_); (focus (first | (rfl; done) | ((simp only [tupAV]; congr <;> omega); done) | (simp [tupAV, *]; done))); (focus (first | rfl | (simp [AV.allR, allRL, allRL_ix]; done))))
      | (refine CWx.ret fun al hal => finK_ext hal (finK_new (b := 0) (.inr rfl) (by simp only [resRV, Am.get, Nat.reduceEqDiff, ↓reduceIte]; exact rfl) rfl (by first | exact allRL_ix _ _ _ | exact allRL_pts _ _ _ | rfl) ?_ ?_) <;> (simp [tupAV, AV.allR, allRL, sigP, AV.mapR, mapRL, sigF]; done))
      | (refine CWx.ret fun al hal => finK_ext hal (finK_new (b := 1) (.inr rfl) (by simp only [resRV, Am.get, Nat.reduceEqDiff, ↓reduceIte]; exact rfl) rfl (by first | exact allRL_ix _ _ _ | exact allRL_pts _ _ _ | rfl) ?_ ?_) <;> (simp [tupAV, AV.allR, allRL, sigP, AV.mapR, mapRL, sigF]; done))
      | (refine CWx.ret fun al hal => finK_ext hal (finK_new (b := 2) (.inr rfl) (by simp only [resRV, Am.get, Nat.reduceEqDiff, ↓reduceIte]; exact rfl) rfl (by first | exact allRL_ix _ _ _ | exact allRL_pts _ _ _ | rfl) ?_ ?_) <;> (simp [tupAV, AV.allR, allRL, sigP, AV.mapR, mapRL, sigF]; done))
end Go.Hull
end
section
set_option linter.unusedSimpArgs false
set_option linter.unusedVariables false
set_option maxHeartbeats 4000000
set_option maxRecDepth 100000
namespace Go.Hull
open Go Go.Am Go.Proofs

def few (l : List Pt) : Bool := decide (l.length ≤ 8) || (decide (64 < l.length) && decide (l.length < 128))
theorem few_chk {l : List Pt} (h : few l = true) : l.length < 128 ∧ (chk l = 0 → l.length ≤ 8) := by
  simp only [few, Bool.or_eq_true, Bool.and_eq_true, decide_eq_true_eq] at h
  refine ⟨by omega, fun hc => ?_⟩
  unfold chk at hc
  split at hc
  · cases hc
  · omega
/-- A list of any length. -/
def fewQ (l : List Pt) : Prop := ∃ b : Bool, CallsF Try.prog 11 [pts l] [] (.bool b) [] ∧ (b = true → few l = true)
theorem c11' (l : List Pt) : fewQ l := by
  refine ⟨few l, ?_, id⟩
  unfold few
  refine callsF_cwx hm hf11 (by simp [cf11]) ?_
  simp only [cf11, argsAl]
  repeat' first
    | (refine hK _ _ _ (by first | exact fun h => Bool.noConfusion h | exact fun _ => rfl) ?_; clear hK K)
    | (refine CWx.r fun K hK => ?_; simp (maxSteps := 4000000) (disch := omega) only [dr0, dr1, dr2, dr3, dr4, if_true, if_false, Option.some.injEq, Nat.reduceEqDiff, Int.reduceToNat, Nat.reduceSub, Nat.reduceAdd, Nat.reduceMul, Nat.reduceLT, Nat.reduceLeDiff, reduceCtorEq, ↓reduceIte, catT, enc0, enc1, if_pos, if_neg])
    | refine CWx.go ?_
    | (refine gX_split (fun hb => ?_) (fun hb => ?_) <;> (try simp only [hb]) <;> (try simp only [bset0, reduceCtorEq] at hb) <;> simp (maxSteps := 4000000) (disch := omega) only [dr0, dr1, dr2, dr3, dr4, if_true, if_false, Option.some.injEq, Nat.reduceEqDiff, Int.reduceToNat, Nat.reduceSub, Nat.reduceAdd, Nat.reduceMul, Nat.reduceLT, Nat.reduceLeDiff, reduceCtorEq, ↓reduceIte, catT, enc0, enc1, if_pos, if_neg])
    | (refine CWx.br rfl (fun hb => ?_) (fun hb => ?_) <;> first | exact Bool.noConfusion hb | (first | (simp only [bset0, reduceCtorEq] at hb; done) | ((try simp only [bset0, reduceCtorEq] at hb); first | contradiction | skip)))
    | (refine CWx.e fun K hK => ?_; simp (maxSteps := 4000000) (disch := omega) only [dr0, dr1, dr2, dr3, dr4, if_true, if_false, Option.some.injEq, Nat.reduceEqDiff, Int.reduceToNat, Nat.reduceSub, Nat.reduceAdd, Nat.reduceMul, Nat.reduceLT, Nat.reduceLeDiff, reduceCtorEq, ↓reduceIte, catT, enc0, enc1, if_pos, if_neg])
    | refine CWx.seq ?_
    | refine CWx.skip ?_
    | refine CWx.exit ?_
    | (refine CWx.ret fun al hal => finK_ext hal (finK_pure (.inr rfl) (by simp only [resRV, Am.get, Nat.reduceEqDiff, ↓reduceIte]; exact rfl) ?_ ?_); (focus (first | ((simp only [tupAV]; congr 1; rw [Bool.eq_iff_iff]; simp only [Bool.or_eq_true, Bool.and_eq_true, decide_eq_true_eq, Bool.false_eq_true, true_iff, false_iff]; omega); done) | (rfl; done) | ((simp only [tupAV]; congr <;> omega); done) | (simp [tupAV, *]; done))); (focus (first | rfl | (simp [AV.allR, allRL, allRL_ix]; done))))
end Go.Hull
end
