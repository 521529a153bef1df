/- ContainsFunc and the closures of the law's function HullDivides: walks.
   Conditions: a few points in range. -/
import Derived.Test.YtkbpkbjfphdgeaaPart12
section
set_option linter.unusedSimpArgs false
set_option linter.unusedVariables false
set_option maxHeartbeats 8000000
set_option maxRecDepth 100000
namespace Go.Hull
open Go Go.Am Go.Proofs

theorem c29 (b : List Pt) (x : Pt) (hn : b.length < 4611686018427387904) (qb : ∀ k, k < b.length → okP (P b k) = true) (hx : okP x = true) : CallsF Try.prog 29 [pt x, .rp true [pts b]] [] (.bool (inB b x)) [] := by
  refine callsF_cwx hm hf29 (by simp [cf29]) ?_
  simp only [cf29, argsAl]
  repeat' first
    | (refine hK _ _ _ (by first | exact fun h => Bool.noConfusion h | exact fun _ => rfl) ?_; clear hK K)
    | (refine CWx.r fun K hK => ?_; simp (maxSteps := 4000000) (disch := omega) only [dr0, dr1, dr2, dr3, dr4, if_true, if_false, Option.some.injEq, Nat.reduceEqDiff, Int.reduceToNat, Nat.reduceSub, Nat.reduceAdd, Nat.reduceMul, Nat.reduceLT, Nat.reduceLeDiff, reduceCtorEq, ↓reduceIte, catT, enc0, enc1, if_pos, if_neg])
    | refine CWx.go ?_
    | (apply RCx.view (fid := 30) (caps := []) rfl rfl; (focus ((simp only [evsA, evA_t, evA_c, Am.get, Nat.reduceEqDiff, ↓reduceIte, List.nil_append, List.cons_append, List.append_nil]; repeat' first | exact viewArgs_nil | apply viewArgs_cons | exact viewG_flat (flat_pts _ _) _ | exact viewG_flat (flat_ixV _ _) _ | exact viewG_flat (flat_sv _ _) _ | exact viewG_ixT rfl (by assumption) (by omega) | exact viewG_ptsL rfl (by first | omega | (simp; done) | (simp; omega)) | exact viewG_ix rfl (by first | omega | (simp; omega)) | exact viewG_flat rfl _; done))); (focus (refine c30 b x hn qb hx <;> first | omega | assumption)); (focus rfl); simp (maxSteps := 4000000) (disch := omega) only [dr0, dr1, dr2, dr3, dr4, if_true, if_false, Option.some.injEq, Nat.reduceEqDiff, Int.reduceToNat, Nat.reduceSub, Nat.reduceAdd, Nat.reduceMul, Nat.reduceLT, Nat.reduceLeDiff, reduceCtorEq, ↓reduceIte, catT, enc0, enc1, if_pos, if_neg])
    | (refine gX_split (fun hb => ?_) (fun hb => ?_) <;> (try simp only [hb]) <;> (try simp only [bset0, reduceCtorEq] at hb) <;> simp (maxSteps := 4000000) (disch := omega) only [dr0, dr1, dr2, dr3, dr4, if_true, if_false, Option.some.injEq, Nat.reduceEqDiff, Int.reduceToNat, Nat.reduceSub, Nat.reduceAdd, Nat.reduceMul, Nat.reduceLT, Nat.reduceLeDiff, reduceCtorEq, ↓reduceIte, catT, enc0, enc1, if_pos, if_neg])
    | (refine CWx.br rfl (fun hb => ?_) (fun hb => ?_) <;> first | exact Bool.noConfusion hb | (first | (simp only [bset0, reduceCtorEq] at hb; done) | ((try simp only [bset0, reduceCtorEq] at hb); first | contradiction | skip)))
    | (refine CWx.e fun K hK => ?_; simp (maxSteps := 4000000) (disch := omega) only [dr0, dr1, dr2, dr3, dr4, if_true, if_false, Option.some.injEq, Nat.reduceEqDiff, Int.reduceToNat, Nat.reduceSub, Nat.reduceAdd, Nat.reduceMul, Nat.reduceLT, Nat.reduceLeDiff, reduceCtorEq, ↓reduceIte, catT, enc0, enc1, if_pos, if_neg])
    | refine CWx.seq ?_
    | refine CWx.skip ?_
    | refine CWx.exit ?_
    | (refine CWx.ret fun al hal => finK_ext hal (finK_pure (.inr rfl) (by simp only [resRV, Am.get, Nat.reduceEqDiff, ↓reduceIte]; exact rfl) ?_ ?_); (focus (first | (rfl; done) | ((simp only [tupAV]; congr <;> omega); done) | (simp [tupAV, *]; done))); (focus (first | rfl | (simp [AV.allR, allRL, allRL_ix]; done))))
theorem c31 (b : List Pt) (x : Pt) (hn : b.length < 4611686018427387904) (qb : ∀ k, k < b.length → okP (P b k) = true) (hx : okP x = true) : CallsF Try.prog 31 [pt x, .rp true [pts b]] [] (.bool (inB b x)) [] := by
  refine callsF_cwx hm hf31 (by simp [cf31]) ?_
  simp only [cf31, argsAl]
  repeat' first
    | (refine hK _ _ _ (by first | exact fun h => Bool.noConfusion h | exact fun _ => rfl) ?_; clear hK K)
    | (refine CWx.r fun K hK => ?_; simp (maxSteps := 4000000) (disch := omega) only [dr0, dr1, dr2, dr3, dr4, if_true, if_false, Option.some.injEq, Nat.reduceEqDiff, Int.reduceToNat, Nat.reduceSub, Nat.reduceAdd, Nat.reduceMul, Nat.reduceLT, Nat.reduceLeDiff, reduceCtorEq, ↓reduceIte, catT, enc0, enc1, if_pos, if_neg])
    | refine CWx.go ?_
    | (apply RCx.view (fid := 30) (caps := []) rfl rfl; (focus ((simp only [evsA, evA_t, evA_c, Am.get, Nat.reduceEqDiff, ↓reduceIte, List.nil_append, List.cons_append, List.append_nil]; repeat' first | exact viewArgs_nil | apply viewArgs_cons | exact viewG_flat (flat_pts _ _) _ | exact viewG_flat (flat_ixV _ _) _ | exact viewG_flat (flat_sv _ _) _ | exact viewG_ixT rfl (by assumption) (by omega) | exact viewG_ptsL rfl (by first | omega | (simp; done) | (simp; omega)) | exact viewG_ix rfl (by first | omega | (simp; omega)) | exact viewG_flat rfl _; done))); (focus (refine c30 b x hn qb hx <;> first | omega | assumption)); (focus rfl); simp (maxSteps := 4000000) (disch := omega) only [dr0, dr1, dr2, dr3, dr4, if_true, if_false, Option.some.injEq, Nat.reduceEqDiff, Int.reduceToNat, Nat.reduceSub, Nat.reduceAdd, Nat.reduceMul, Nat.reduceLT, Nat.reduceLeDiff, reduceCtorEq, ↓reduceIte, catT, enc0, enc1, if_pos, if_neg])
    | (refine gX_split (fun hb => ?_) (fun hb => ?_) <;> (try simp only [hb]) <;> (try simp only [bset0, reduceCtorEq] at hb) <;> simp (maxSteps := 4000000) (disch := omega) only [dr0, dr1, dr2, dr3, dr4, if_true, if_false, Option.some.injEq, Nat.reduceEqDiff, Int.reduceToNat, Nat.reduceSub, Nat.reduceAdd, Nat.reduceMul, Nat.reduceLT, Nat.reduceLeDiff, reduceCtorEq, ↓reduceIte, catT, enc0, enc1, if_pos, if_neg])
    | (refine CWx.br rfl (fun hb => ?_) (fun hb => ?_) <;> first | exact Bool.noConfusion hb | (first | (simp only [bset0, reduceCtorEq] at hb; done) | ((try simp only [bset0, reduceCtorEq] at hb); first | contradiction | skip)))
    | (refine CWx.e fun K hK => ?_; simp (maxSteps := 4000000) (disch := omega) only [dr0, dr1, dr2, dr3, dr4, if_true, if_false, Option.some.injEq, Nat.reduceEqDiff, Int.reduceToNat, Nat.reduceSub, Nat.reduceAdd, Nat.reduceMul, Nat.reduceLT, Nat.reduceLeDiff, reduceCtorEq, ↓reduceIte, catT, enc0, enc1, if_pos, if_neg])
    | refine CWx.seq ?_
    | refine CWx.skip ?_
    | refine CWx.exit ?_
    | (refine CWx.ret fun al hal => finK_ext hal (finK_pure (.inr rfl) (by simp only [resRV, Am.get, Nat.reduceEqDiff, ↓reduceIte]; exact rfl) ?_ ?_); (focus (first | (rfl; done) | ((simp only [tupAV]; congr <;> omega); done) | (simp [tupAV, *]; done))); (focus (first | rfl | (simp [AV.allR, allRL, allRL_ix]; done))))
theorem c28 {x d : Pt} (m : Int) (hx : smallV x) (hd : smallV d) : CallsF Try.prog 28 [pt x, .rp true [.int .i64 d.1, .int .i64 d.2], .rp true [.int .i64 m]] [] (.bool (decide (dot x d ≤ m))) [] := by
  refine callsF_cwx hm hf28 (by simp [cf28]) ?_
  simp only [cf28, argsAl]
  repeat' first
    | (refine hK _ _ _ (by first | exact fun h => Bool.noConfusion h | exact fun _ => rfl) ?_; clear hK K)
    | (refine CWx.r fun K hK => ?_; simp (maxSteps := 4000000) (disch := omega) only [dr0, dr1, dr2, dr3, dr4, if_true, if_false, Option.some.injEq, Nat.reduceEqDiff, Int.reduceToNat, Nat.reduceSub, Nat.reduceAdd, Nat.reduceMul, Nat.reduceLT, Nat.reduceLeDiff, reduceCtorEq, ↓reduceIte, catT, enc0, enc1, if_pos, if_neg])
    | refine CWx.go ?_
    | (apply RCx.view (fid := 26) (caps := []) rfl rfl; (focus ((simp only [evsA, evA_t, evA_c, Am.get, Nat.reduceEqDiff, ↓reduceIte, List.nil_append, List.cons_append, List.append_nil]; repeat' first | exact viewArgs_nil | apply viewArgs_cons | exact viewG_flat (flat_pts _ _) _ | exact viewG_flat (flat_ixV _ _) _ | exact viewG_flat (flat_sv _ _) _ | exact viewG_ixT rfl (by assumption) (by omega) | exact viewG_ptsL rfl (by first | omega | (simp; done) | (simp; omega)) | exact viewG_ix rfl (by first | omega | (simp; omega)) | exact viewG_flat rfl _; done))); (focus (refine c26 hx hd <;> first | omega | assumption)); (focus rfl); simp (maxSteps := 4000000) (disch := omega) only [dr0, dr1, dr2, dr3, dr4, if_true, if_false, Option.some.injEq, Nat.reduceEqDiff, Int.reduceToNat, Nat.reduceSub, Nat.reduceAdd, Nat.reduceMul, Nat.reduceLT, Nat.reduceLeDiff, reduceCtorEq, ↓reduceIte, catT, enc0, enc1, if_pos, if_neg])
    | (refine gX_split (fun hb => ?_) (fun hb => ?_) <;> (try simp only [hb]) <;> (try simp only [bset0, reduceCtorEq] at hb) <;> simp (maxSteps := 4000000) (disch := omega) only [dr0, dr1, dr2, dr3, dr4, if_true, if_false, Option.some.injEq, Nat.reduceEqDiff, Int.reduceToNat, Nat.reduceSub, Nat.reduceAdd, Nat.reduceMul, Nat.reduceLT, Nat.reduceLeDiff, reduceCtorEq, ↓reduceIte, catT, enc0, enc1, if_pos, if_neg])
    | (refine CWx.br rfl (fun hb => ?_) (fun hb => ?_) <;> first | exact Bool.noConfusion hb | (first | (simp only [bset0, reduceCtorEq] at hb; done) | ((try simp only [bset0, reduceCtorEq] at hb); first | contradiction | skip)))
    | (refine CWx.e fun K hK => ?_; simp (maxSteps := 4000000) (disch := omega) only [dr0, dr1, dr2, dr3, dr4, if_true, if_false, Option.some.injEq, Nat.reduceEqDiff, Int.reduceToNat, Nat.reduceSub, Nat.reduceAdd, Nat.reduceMul, Nat.reduceLT, Nat.reduceLeDiff, reduceCtorEq, ↓reduceIte, catT, enc0, enc1, if_pos, if_neg])
    | refine CWx.seq ?_
    | refine CWx.skip ?_
    | refine CWx.exit ?_
    | (refine CWx.ret fun al hal => finK_ext hal (finK_pure (.inr rfl) (by simp only [resRV, Am.get, Nat.reduceEqDiff, ↓reduceIte]; exact rfl) ?_ ?_); (focus (first | (rfl; done) | ((simp only [tupAV]; congr <;> omega); done) | (simp [tupAV, *]; done))); (focus (first | rfl | (simp [AV.allR, allRL, allRL_ix]; done))))
/-- A closure over two own places, seen. -/
theorem viewG_clo2 {hl : List Blk} {b g c g' sz sz' : Nat} {nil frz nil' frz' : Bool} {f : FuncId} {d : Pt} {m : Int} (hb : hget hl b = .row nil g frz sz [pt d]) (hc : hget hl c = .row nil' g' frz' sz' [.int .i64 m]) :
    viewG hl 6 (.clo f [.ptr b g 0 0, .ptr c g' 0 0]) = some (.clo f [.rp true [.int .i64 d.1, .int .i64 d.2], .rp true [.int .i64 m]], [b, c]) := by
  have i1 : ∀ n : Int, viewG hl 4 (.int .i64 n) = some (.int .i64 n, []) := fun n => viewG_flat rfl 3
  have h1 : viewG hl 5 (.ptr b g 0 0) = some (.rp true [.int .i64 d.1, .int .i64 d.2], [b]) := by
    unfold viewG
    simp only [flatN, AV.lt, Nat.not_lt_zero, decide_false, Bool.false_eq_true, if_false, hb, if_true, List.getElem?_cons_zero, pt, AV.cells, List.drop_zero, optL, i1, List.map_cons, List.map_nil, catT, List.append_nil]
  have h2 : viewG hl 5 (.ptr c g' 0 0) = some (.rp true [.int .i64 m], [c]) := by
    unfold viewG
    simp only [flatN, AV.lt, Nat.not_lt_zero, decide_false, Bool.false_eq_true, if_false, hc, if_true, List.getElem?_cons_zero, AV.cells, List.drop_zero, optL, i1, List.map_cons, List.map_nil, catT, List.append_nil]
  unfold viewG
  simp only [flatN, allB, AV.lt, ltL, Nat.not_lt_zero, decide_false, Bool.false_eq_true, Bool.false_and, if_false, optL, h1, h2, List.map_cons, List.map_nil, catT, List.append_nil, List.cons_append, List.nil_append]
theorem sgm (x y : Int) : (-1 ≤ sgn x * sgn y ∧ sgn x * sgn y ≤ 1) ∧ (sgn x * sgn y < 0 ↔ x * y < 0) := by
  have s1 : ∀ z : Int, (z < 0 ∧ sgn z = -1) ∨ (z = 0 ∧ sgn z = 0) ∨ (0 < z ∧ sgn z = 1) := fun z => by unfold sgn; split <;> (try split) <;> omega
  rcases s1 x with ⟨h, e⟩ | ⟨h, e⟩ | ⟨h, e⟩ <;> rcases s1 y with ⟨h', e'⟩ | ⟨h', e'⟩ | ⟨h', e'⟩ <;> rw [e, e']
  · have := Int.mul_pos_of_neg_of_neg h h'; omega
  · rw [h']; omega
  · have := Int.mul_neg_of_neg_of_pos h h'; omega
  · rw [h]; omega
  · rw [h]; omega
  · rw [h]; omega
  · have := Int.mul_neg_of_pos_of_neg h h'; omega
  · rw [h']; omega
  · have := Int.mul_pos h h'; omega
/-- The sides cross. -/
def crB (a b : List Pt) (i j s t : Nat) : Bool := decide (sgn (left (P a i) (P a j) (P b s)) * sgn (left (P a i) (P a j) (P b t)) < 0 ∧ sgn (left (P b s) (P b t) (P a i)) * sgn (left (P b s) (P b t) (P a j)) < 0)
theorem meetB {a b : List Pt} (ha : 0 < a.length) (hb : 0 < b.length) (h : ∀ d ∈ waysI a b, spl a b d = false) : (a.any fun p => inB b p) = true ∨ (b.any fun q => inB a q) = true ∨ ∃ i j s t, i < a.length ∧ j < a.length ∧ s < b.length ∧ t < b.length ∧ crB a b i j s t = true := by
  by_cases h1 : (a.any fun p => inB b p) = true
  · exact .inl h1
  · by_cases h2 : (b.any fun q => inB a q) = true
    · exact .inr (.inl h2)
    · right; right
      have hs : ¬ ∃ d, Sep a b d := fun ⟨d, hd⟩ => by
        obtain ⟨e, he, hse⟩ := sep_way ha hb hd
        have := h e he
        rw [(spl_iff ha hb e).2 hse] at this; cases this
      obtain ⟨p, hp, p', hp', q, hq, q', hq', c1, c2⟩ := meet ha hb hs (fun p hp hin => h1 (List.any_eq_true.2 ⟨p, hp, (inB_in b p).2 hin⟩)) (fun q hq hin => h2 (List.any_eq_true.2 ⟨q, hq, (inB_in a q).2 hin⟩))
      obtain ⟨i, hi, rfl⟩ := mem_P hp
      obtain ⟨j, hj, rfl⟩ := mem_P hp'
      obtain ⟨s, hs', rfl⟩ := mem_P hq
      obtain ⟨t, ht, rfl⟩ := mem_P hq'
      exact ⟨i, j, s, t, hi, hj, hs', ht, decide_eq_true ⟨(sgm _ _).2.2 c1, (sgm _ _).2.2 c2⟩⟩
end Go.Hull
end
section
set_option linter.unusedSimpArgs false
set_option linter.unusedVariables false
set_option maxHeartbeats 8000000
set_option maxRecDepth 100000
namespace Go.Hull
open Go Go.Am Go.Proofs

theorem law6 (a b : List Pt) : CallsF Try.prog 6 [pts a, pts b] [] (.bool true) [] := by
  have ka := c25 a
  have kb := c25 b
  obtain ⟨ra, hra⟩ : ∃ r, r = (decide (0 < a.length) && (decide (a.length ≤ 8) && (chk a == 0))) := ⟨_, rfl⟩
  obtain ⟨rb, hrb⟩ : ∃ r, r = (decide (0 < b.length) && (decide (b.length ≤ 8) && (chk b == 0))) := ⟨_, rfl⟩
  rw [← hra] at ka
  rw [← hrb] at kb
  by_cases hr : ra = true ∧ rb = true
  · obtain ⟨rfl, rfl⟩ := hr
    have hra' := hra.symm
    have hrb' := hrb.symm
    simp only [Bool.and_eq_true, decide_eq_true_eq, beq_iff_eq] at hra' hrb'
    obtain ⟨ha, a8, ca⟩ := hra'
    obtain ⟨hb0, b8, cb⟩ := hrb'
    have oka := chk_ok ca
    have okb := chk_ok cb
    have qa := ok_P oka
    have qb := ok_P okb
    have k23 := c23 a b (by omega) (by omega) (fun _ => a8) (fun _ => b8)
    have he : ¬ (a.length = 0 ∨ b.length = 0) := by omega
    have hs : sepR a b = match (waysI a b).find? (spl a b) with
        | some d => (true, d, topN a d a.length, 0)
        | none => (false, (0, 0), 0, 0) := by unfold sepR; rw [if_neg (by simp [ca]), if_neg (by simp [cb]), if_neg he]; rfl
    cases hf : (waysI a b).find? (spl a b) with
    | some d =>
      rw [hf] at hs
      simp only at hs
      rw [hs, sepV] at k23
      simp only at k23
      have hsd := List.find?_some hf
      have hmem := List.mem_of_find?_eq_some hf
      have sd := ways_small oka okb d hmem
      have hsep := (spl_iff ha hb0 d).1 hsd
      obtain ⟨t1, i0, hi0, t2⟩ := topN_spec ha d a.length (Nat.le_refl _)
      obtain ⟨m, hm0⟩ : ∃ m, m = topN a d a.length := ⟨_, rfl⟩
      rw [← hm0] at k23 t1 t2
      have hany : (b.any fun p => decide (dot p d ≤ m)) = false := by
        rw [List.any_eq_false]
        intro q hq
        have := hsep _ (P_mem hi0) q hq
        simp only [decide_eq_true_eq]; omega
      have k27 := c27 b (by omega) 28 [.rp true [.int .i64 d.1, .int .i64 d.2], .rp true [.int .i64 m]] (fun p => decide (dot p d ≤ m)) (fun p hp => c28 m (ok_small (List.all_eq_true.1 okb p hp)) sd) rfl (fun _ => rfl) rfl
      rw [hany] at k27
      refine callsF_cwx hm hf6 (by simp [cf6]) ?_
      simp only [cf6, argsAl]
      repeat' first
        | (refine hK _ _ _ (by first | exact fun h => Bool.noConfusion h | exact fun _ => rfl) ?_; clear hK K)
        | (refine CWx.r fun K hK => ?_; simp (maxSteps := 4000000) (disch := omega) only [dr0, dr1, dr2, dr3, dr4, if_true, if_false, Option.some.injEq, Nat.reduceEqDiff, Int.reduceToNat, Nat.reduceSub, Nat.reduceAdd, Nat.reduceMul, Nat.reduceLT, Nat.reduceLeDiff, reduceCtorEq, ↓reduceIte, catT, enc0, enc1, if_pos, if_neg])
        | refine CWx.go ?_
        | (apply RCx.view (fid := 25) (caps := []) rfl rfl; (focus ((simp only [evsA, evA_t, evA_c, Am.get, Nat.reduceEqDiff, ↓reduceIte, List.nil_append, List.cons_append, List.append_nil]; repeat' first | exact viewArgs_nil | apply viewArgs_cons | exact viewG_flat (flat_pts _ _) _ | exact viewG_flat (flat_ixV _ _) _ | exact viewG_flat (flat_sv _ _) _ | exact viewG_ixT rfl (by assumption) (by omega) | exact viewG_ptsL rfl (by first | omega | (simp; done) | (simp; omega)) | exact viewG_ix rfl (by first | omega | (simp; omega)) | exact viewG_flat rfl _; done))); (focus (refine ka <;> first | omega | assumption)); (focus rfl); simp (maxSteps := 4000000) (disch := omega) only [dr0, dr1, dr2, dr3, dr4, if_true, if_false, Option.some.injEq, Nat.reduceEqDiff, Int.reduceToNat, Nat.reduceSub, Nat.reduceAdd, Nat.reduceMul, Nat.reduceLT, Nat.reduceLeDiff, reduceCtorEq, ↓reduceIte, catT, enc0, enc1, if_pos, if_neg])
        | (apply RCx.view (fid := 25) (caps := []) rfl rfl; (focus ((simp only [evsA, evA_t, evA_c, Am.get, Nat.reduceEqDiff, ↓reduceIte, List.nil_append, List.cons_append, List.append_nil]; repeat' first | exact viewArgs_nil | apply viewArgs_cons | exact viewG_flat (flat_pts _ _) _ | exact viewG_flat (flat_ixV _ _) _ | exact viewG_flat (flat_sv _ _) _ | exact viewG_ixT rfl (by assumption) (by omega) | exact viewG_ptsL rfl (by first | omega | (simp; done) | (simp; omega)) | exact viewG_ix rfl (by first | omega | (simp; omega)) | exact viewG_flat rfl _; done))); (focus (refine kb <;> first | omega | assumption)); (focus rfl); simp (maxSteps := 4000000) (disch := omega) only [dr0, dr1, dr2, dr3, dr4, if_true, if_false, Option.some.injEq, Nat.reduceEqDiff, Int.reduceToNat, Nat.reduceSub, Nat.reduceAdd, Nat.reduceMul, Nat.reduceLT, Nat.reduceLeDiff, reduceCtorEq, ↓reduceIte, catT, enc0, enc1, if_pos, if_neg])
        | (apply RCx.view (fid := 12) (caps := []) rfl rfl; (focus ((simp only [evsA, evA_t, evA_c, Am.get, Nat.reduceEqDiff, ↓reduceIte, List.nil_append, List.cons_append, List.append_nil]; repeat' first | exact viewArgs_nil | apply viewArgs_cons | exact viewG_flat (flat_pts _ _) _ | exact viewG_flat (flat_ixV _ _) _ | exact viewG_flat (flat_sv _ _) _ | exact viewG_ixT rfl (by assumption) (by omega) | exact viewG_ptsL rfl (by first | omega | (simp; done) | (simp; omega)) | exact viewG_ix rfl (by first | omega | (simp; omega)) | exact viewG_flat rfl _; done))); (focus (refine Aw.x_awake <;> first | omega | assumption)); (focus rfl); simp (maxSteps := 4000000) (disch := omega) only [dr0, dr1, dr2, dr3, dr4, if_true, if_false, Option.some.injEq, Nat.reduceEqDiff, Int.reduceToNat, Nat.reduceSub, Nat.reduceAdd, Nat.reduceMul, Nat.reduceLT, Nat.reduceLeDiff, reduceCtorEq, ↓reduceIte, catT, enc0, enc1, if_pos, if_neg])
        | (apply RCx.view (fid := 23) (caps := []) rfl rfl; (focus ((simp only [evsA, evA_t, evA_c, Am.get, Nat.reduceEqDiff, ↓reduceIte, List.nil_append, List.cons_append, List.append_nil]; repeat' first | exact viewArgs_nil | apply viewArgs_cons | exact viewG_flat (flat_pts _ _) _ | exact viewG_flat (flat_ixV _ _) _ | exact viewG_flat (flat_sv _ _) _ | exact viewG_ixT rfl (by assumption) (by omega) | exact viewG_ptsL rfl (by first | omega | (simp; done) | (simp; omega)) | exact viewG_ix rfl (by first | omega | (simp; omega)) | exact viewG_flat rfl _; done))); (focus (refine k23 <;> first | omega | assumption)); (focus rfl); simp (maxSteps := 4000000) (disch := omega) only [dr0, dr1, dr2, dr3, dr4, if_true, if_false, Option.some.injEq, Nat.reduceEqDiff, Int.reduceToNat, Nat.reduceSub, Nat.reduceAdd, Nat.reduceMul, Nat.reduceLT, Nat.reduceLeDiff, reduceCtorEq, ↓reduceIte, catT, enc0, enc1, if_pos, if_neg])
        | (apply RCx.view (fid := 26) (caps := []) rfl rfl; (focus ((simp only [evsA, evA_t, evA_c, Am.get, Nat.reduceEqDiff, ↓reduceIte, List.nil_append, List.cons_append, List.append_nil]; repeat' first | exact viewArgs_nil | apply viewArgs_cons | exact viewG_flat (flat_pts _ _) _ | exact viewG_flat (flat_ixV _ _) _ | exact viewG_flat (flat_sv _ _) _ | exact viewG_ixT rfl (by assumption) (by omega) | exact viewG_ptsL rfl (by first | omega | (simp; done) | (simp; omega)) | exact viewG_ix rfl (by first | omega | (simp; omega)) | exact viewG_flat rfl _; done))); (focus (refine c26 (ok_small (qa i ?_)) sd <;> first | omega | assumption)); (focus rfl); simp (maxSteps := 4000000) (disch := omega) only [dr0, dr1, dr2, dr3, dr4, if_true, if_false, Option.some.injEq, Nat.reduceEqDiff, Int.reduceToNat, Nat.reduceSub, Nat.reduceAdd, Nat.reduceMul, Nat.reduceLT, Nat.reduceLeDiff, reduceCtorEq, ↓reduceIte, catT, enc0, enc1, if_pos, if_neg])
        | (refine RCx.view (fid := 27) (caps := []) rfl rfl (viewArgs2 (viewG_flat (flat_pts b 2) _) (viewG_clo2 rfl rfl)) k27 rfl ?_; simp (maxSteps := 4000000) (disch := omega) only [dr0, dr1, dr2, dr3, dr4, if_true, if_false, Option.some.injEq, Nat.reduceEqDiff, Int.reduceToNat, Nat.reduceSub, Nat.reduceAdd, Nat.reduceMul, Nat.reduceLT, Nat.reduceLeDiff, reduceCtorEq, ↓reduceIte, catT, enc0, enc1, if_pos, if_neg])
        | (refine gX_split (fun hb => ?_) (fun hb => ?_) <;> (try simp only [hb]) <;> (try simp only [bset0, reduceCtorEq] at hb) <;> first | omega | simp (maxSteps := 4000000) (disch := omega) only [dr0, dr1, dr2, dr3, dr4, if_true, if_false, Option.some.injEq, Nat.reduceEqDiff, Int.reduceToNat, Nat.reduceSub, Nat.reduceAdd, Nat.reduceMul, Nat.reduceLT, Nat.reduceLeDiff, reduceCtorEq, ↓reduceIte, catT, enc0, enc1, if_pos, if_neg])
        | (refine CWx.br rfl (fun hb => ?_) (fun hb => ?_) <;> first | exact Bool.noConfusion hb | (first | (simp only [bset0, reduceCtorEq] at hb; done) | ((try simp only [bset0, reduceCtorEq] at hb); first | omega | skip)))
        | (refine CWx.e fun K hK => ?_; simp (maxSteps := 4000000) (disch := omega) only [dr0, dr1, dr2, dr3, dr4, if_true, if_false, Option.some.injEq, Nat.reduceEqDiff, Int.reduceToNat, Nat.reduceSub, Nat.reduceAdd, Nat.reduceMul, Nat.reduceLT, Nat.reduceLeDiff, reduceCtorEq, ↓reduceIte, catT, enc0, enc1, if_pos, if_neg])
        | (refine CWx.block (id := 0) ?_; refine CWx.loopK (ι := Nat) [3, 6, 7, 40, 41] (fun i => a.length - i) (fun i => [(42, .int .i64 (i : Int))]) (fun i => [.row false 0 false 1 [pts a], .row false 0 false 1 [pts b], .row false 0 false 2 [pt d], .row false 0 false 1 [.int .i64 m]]) (fun i => i ≤ a.length) (fun i => by simp only [keepA, Am.get, List.cons_append, List.nil_append, Nat.reduceEqDiff, ↓reduceIte]; exact rfl) (0) ?_ ?_ (fun i hi => ?_); (focus ((try dsimp only) <;> (first | trivial | omega | (refine ⟨?_, ?_⟩ <;> first | omega | trivial | simp_all) | simp_all); done)); (focus (refine Fgt.mk' 4 (by simp) ?_ ?_ ?_ <;> simp [-List.map_take, -List.map_map, AV.isY, ltL_append, ix_nil, keepB, Am.get, AV.lt, ltL, lt_pts, lt_pt, lt_ixV, ltL_ix, ltL_pt, Blk.lt, ltB]; done)); have Hi := hi; ((have hti := t1 i)))
        | refine CWx.seq ?_
        | refine CWx.block (id := 1) ?_
        | refine CWx.block (id := 3) ?_
        | refine CWx.block (id := 5) ?_
        | refine CWx.block (id := 7) ?_
        | refine CWx.block (id := 9) ?_
        | refine CWx.skip ?_
        | refine CWx.exit ?_
        | (refine CWx.ret fun al hal => finK_ext hal (finK_pure (.inr rfl) (by simp only [resRV, Am.get, Nat.reduceEqDiff, ↓reduceIte]; exact rfl) ?_ ?_); (focus (first | (rfl; done) | (rfl; done) | ((simp only [tupAV]; congr <;> omega); done) | (simp [tupAV, *]; done))); (focus (first | rfl | (simp [AV.allR, allRL, allRL_ix]; done))))
        | (intro al hal; refine ⟨i + 1, ?_, ?_, Fgt.ofx hal ?_⟩; (focus (first | omega | (dsimp only; omega))); (focus ((try dsimp only) <;> (first | trivial | omega | (refine ⟨?_, ?_⟩ <;> first | omega | trivial | simp_all) | simp_all); done)); (focus (refine Fgt.mk' 4 (by simp) ?_ ?_ ?_ <;> simp [-List.map_take, -List.map_map, AV.isY, ltL_append, ix_nil, keepB, Am.get, AV.lt, ltL, lt_pts, lt_pt, lt_ixV, ltL_ix, ltL_pt, Blk.lt, ltB]; done)))
    | none =>
      rw [hf] at hs
      simp only at hs
      rw [hs, sepV] at k23
      simp only at k23
      have hno : ∀ d ∈ waysI a b, spl a b d = false := fun d hd => by
        have := List.find?_eq_none.1 hf d hd
        simpa using this
      have hmeet := meetB ha hb0 hno
      have k27a := c27 a (by omega) 29 [.rp true [pts b]] (fun p => inB b p) (fun p hp => c29 b p (by omega) qb (List.all_eq_true.1 oka p hp)) (by simp only [List.all_cons, List.all_nil, flat_rp, Bool.and_self]) (fun n => by simp only [ltL, AV.lt, lt_pts, Bool.and_self]) (flat_cl b 29)
      have k27b := c27 b (by omega) 31 [.rp true [pts a]] (fun p => inB a p) (fun p hp => c31 a p (by omega) qa (List.all_eq_true.1 okb p hp)) (by simp only [List.all_cons, List.all_nil, flat_rp, Bool.and_self]) (fun n => by simp only [ltL, AV.lt, lt_pts, Bool.and_self]) (flat_cl a 31)
      obtain ⟨z1, hz1⟩ : ∃ z, z = (a.any fun p => inB b p) := ⟨_, rfl⟩
      obtain ⟨z2, hz2⟩ : ∃ z, z = (b.any fun p => inB a p) := ⟨_, rfl⟩
      rw [← hz1] at k27a hmeet
      rw [← hz2] at k27b hmeet
      have fin : ∀ z0 z : Bool, z0 = (z1 || z2) → (z0 = true → z = true) → (∀ i, i < a.length → ∀ j, j < a.length → ∀ s, s < b.length → ∀ t, t < b.length → crB a b i j s t = true → z = true) → z = true := fun z0 z e h1 h2 => by
        rcases hmeet with h | h | ⟨i, j, s, t, hi, hj, hs, ht, h⟩
        · exact h1 (by rw [e, h]; rfl)
        · exact h1 (by rw [e, h]; cases z1 <;> rfl)
        · exact h2 i hi j hj s hs t ht h
      refine callsF_cwx hm hf6 (by simp [cf6]) ?_
      simp only [cf6, argsAl]
      repeat' first
        | (refine hK _ _ _ (by first | exact fun h => Bool.noConfusion h | exact fun _ => rfl) ?_; clear hK K)
        | (refine CWx.r fun K hK => ?_; simp (maxSteps := 4000000) (disch := omega) only [dr0, dr1, dr2, dr3, dr4, if_true, if_false, Option.some.injEq, Nat.reduceEqDiff, Int.reduceToNat, Nat.reduceSub, Nat.reduceAdd, Nat.reduceMul, Nat.reduceLT, Nat.reduceLeDiff, reduceCtorEq, ↓reduceIte, catT, enc0, enc1, if_pos, if_neg])
        | refine CWx.go ?_
        | (apply RCx.view (fid := 25) (caps := []) rfl rfl; (focus ((simp only [evsA, evA_t, evA_c, Am.get, Nat.reduceEqDiff, ↓reduceIte, List.nil_append, List.cons_append, List.append_nil]; repeat' first | exact viewArgs_nil | apply viewArgs_cons | exact viewG_flat (flat_pts _ _) _ | exact viewG_flat (flat_ixV _ _) _ | exact viewG_flat (flat_sv _ _) _ | exact viewG_ixT rfl (by assumption) (by omega) | exact viewG_ptsL rfl (by first | omega | (simp; done) | (simp; omega)) | exact viewG_ix rfl (by first | omega | (simp; omega)) | exact viewG_flat rfl _; done))); (focus (refine ka <;> first | omega | assumption)); (focus rfl); simp (maxSteps := 4000000) (disch := omega) only [dr0, dr1, dr2, dr3, dr4, if_true, if_false, Option.some.injEq, Nat.reduceEqDiff, Int.reduceToNat, Nat.reduceSub, Nat.reduceAdd, Nat.reduceMul, Nat.reduceLT, Nat.reduceLeDiff, reduceCtorEq, ↓reduceIte, catT, enc0, enc1, if_pos, if_neg])
        | (apply RCx.view (fid := 25) (caps := []) rfl rfl; (focus ((simp only [evsA, evA_t, evA_c, Am.get, Nat.reduceEqDiff, ↓reduceIte, List.nil_append, List.cons_append, List.append_nil]; repeat' first | exact viewArgs_nil | apply viewArgs_cons | exact viewG_flat (flat_pts _ _) _ | exact viewG_flat (flat_ixV _ _) _ | exact viewG_flat (flat_sv _ _) _ | exact viewG_ixT rfl (by assumption) (by omega) | exact viewG_ptsL rfl (by first | omega | (simp; done) | (simp; omega)) | exact viewG_ix rfl (by first | omega | (simp; omega)) | exact viewG_flat rfl _; done))); (focus (refine kb <;> first | omega | assumption)); (focus rfl); simp (maxSteps := 4000000) (disch := omega) only [dr0, dr1, dr2, dr3, dr4, if_true, if_false, Option.some.injEq, Nat.reduceEqDiff, Int.reduceToNat, Nat.reduceSub, Nat.reduceAdd, Nat.reduceMul, Nat.reduceLT, Nat.reduceLeDiff, reduceCtorEq, ↓reduceIte, catT, enc0, enc1, if_pos, if_neg])
        | (apply RCx.view (fid := 12) (caps := []) rfl rfl; (focus ((simp only [evsA, evA_t, evA_c, Am.get, Nat.reduceEqDiff, ↓reduceIte, List.nil_append, List.cons_append, List.append_nil]; repeat' first | exact viewArgs_nil | apply viewArgs_cons | exact viewG_flat (flat_pts _ _) _ | exact viewG_flat (flat_ixV _ _) _ | exact viewG_flat (flat_sv _ _) _ | exact viewG_ixT rfl (by assumption) (by omega) | exact viewG_ptsL rfl (by first | omega | (simp; done) | (simp; omega)) | exact viewG_ix rfl (by first | omega | (simp; omega)) | exact viewG_flat rfl _; done))); (focus (refine Aw.x_awake <;> first | omega | assumption)); (focus rfl); simp (maxSteps := 4000000) (disch := omega) only [dr0, dr1, dr2, dr3, dr4, if_true, if_false, Option.some.injEq, Nat.reduceEqDiff, Int.reduceToNat, Nat.reduceSub, Nat.reduceAdd, Nat.reduceMul, Nat.reduceLT, Nat.reduceLeDiff, reduceCtorEq, ↓reduceIte, catT, enc0, enc1, if_pos, if_neg])
        | (apply RCx.view (fid := 23) (caps := []) rfl rfl; (focus ((simp only [evsA, evA_t, evA_c, Am.get, Nat.reduceEqDiff, ↓reduceIte, List.nil_append, List.cons_append, List.append_nil]; repeat' first | exact viewArgs_nil | apply viewArgs_cons | exact viewG_flat (flat_pts _ _) _ | exact viewG_flat (flat_ixV _ _) _ | exact viewG_flat (flat_sv _ _) _ | exact viewG_ixT rfl (by assumption) (by omega) | exact viewG_ptsL rfl (by first | omega | (simp; done) | (simp; omega)) | exact viewG_ix rfl (by first | omega | (simp; omega)) | exact viewG_flat rfl _; done))); (focus (refine k23 <;> first | omega | assumption)); (focus rfl); simp (maxSteps := 4000000) (disch := omega) only [dr0, dr1, dr2, dr3, dr4, if_true, if_false, Option.some.injEq, Nat.reduceEqDiff, Int.reduceToNat, Nat.reduceSub, Nat.reduceAdd, Nat.reduceMul, Nat.reduceLT, Nat.reduceLeDiff, reduceCtorEq, ↓reduceIte, catT, enc0, enc1, if_pos, if_neg])
        | (refine RCx.view (fid := 27) (caps := []) rfl rfl (viewArgs2 (viewG_flat (flat_pts a 2) _) (viewG_clo rfl (flat_pts b 2) rfl)) k27a rfl ?_; simp (maxSteps := 4000000) (disch := omega) only [dr0, dr1, dr2, dr3, dr4, if_true, if_false, Option.some.injEq, Nat.reduceEqDiff, Int.reduceToNat, Nat.reduceSub, Nat.reduceAdd, Nat.reduceMul, Nat.reduceLT, Nat.reduceLeDiff, reduceCtorEq, ↓reduceIte, catT, enc0, enc1, if_pos, if_neg])
        | (refine RCx.view (fid := 27) (caps := []) rfl rfl (viewArgs2 (viewG_flat (flat_pts b 2) _) (viewG_clo rfl (flat_pts a 2) rfl)) k27b rfl ?_; simp (maxSteps := 4000000) (disch := omega) only [dr0, dr1, dr2, dr3, dr4, if_true, if_false, Option.some.injEq, Nat.reduceEqDiff, Int.reduceToNat, Nat.reduceSub, Nat.reduceAdd, Nat.reduceMul, Nat.reduceLT, Nat.reduceLeDiff, reduceCtorEq, ↓reduceIte, catT, enc0, enc1, if_pos, if_neg])
        | (apply RCx.view (fid := 33) (caps := []) rfl rfl; (focus ((simp only [evsA, evA_t, evA_c, Am.get, Nat.reduceEqDiff, ↓reduceIte, List.nil_append, List.cons_append, List.append_nil]; repeat' first | exact viewArgs_nil | apply viewArgs_cons | exact viewG_flat (flat_pts _ _) _ | exact viewG_flat (flat_ixV _ _) _ | exact viewG_flat (flat_sv _ _) _ | exact viewG_ixT rfl (by assumption) (by omega) | exact viewG_ptsL rfl (by first | omega | (simp; done) | (simp; omega)) | exact viewG_ix rfl (by first | omega | (simp; omega)) | exact viewG_flat rfl _; done))); (focus (refine c33 (qa _ ?_) (qa _ ?_) (qb _ ?_) <;> first | omega | assumption)); (focus rfl); simp (maxSteps := 4000000) (disch := omega) only [dr0, dr1, dr2, dr3, dr4, if_true, if_false, Option.some.injEq, Nat.reduceEqDiff, Int.reduceToNat, Nat.reduceSub, Nat.reduceAdd, Nat.reduceMul, Nat.reduceLT, Nat.reduceLeDiff, reduceCtorEq, ↓reduceIte, catT, enc0, enc1, if_pos, if_neg])
        | (apply RCx.view (fid := 33) (caps := []) rfl rfl; (focus ((simp only [evsA, evA_t, evA_c, Am.get, Nat.reduceEqDiff, ↓reduceIte, List.nil_append, List.cons_append, List.append_nil]; repeat' first | exact viewArgs_nil | apply viewArgs_cons | exact viewG_flat (flat_pts _ _) _ | exact viewG_flat (flat_ixV _ _) _ | exact viewG_flat (flat_sv _ _) _ | exact viewG_ixT rfl (by assumption) (by omega) | exact viewG_ptsL rfl (by first | omega | (simp; done) | (simp; omega)) | exact viewG_ix rfl (by first | omega | (simp; omega)) | exact viewG_flat rfl _; done))); (focus (refine c33 (qb _ ?_) (qb _ ?_) (qa _ ?_) <;> first | omega | assumption)); (focus rfl); simp (maxSteps := 4000000) (disch := omega) only [dr0, dr1, dr2, dr3, dr4, if_true, if_false, Option.some.injEq, Nat.reduceEqDiff, Int.reduceToNat, Nat.reduceSub, Nat.reduceAdd, Nat.reduceMul, Nat.reduceLT, Nat.reduceLeDiff, reduceCtorEq, ↓reduceIte, catT, enc0, enc1, if_pos, if_neg])
        | (apply RCx.view (fid := 32) (caps := []) rfl rfl; (focus ((simp only [evsA, evA_t, evA_c, Am.get, Nat.reduceEqDiff, ↓reduceIte, List.nil_append, List.cons_append, List.append_nil]; repeat' first | exact viewArgs_nil | apply viewArgs_cons | exact viewG_flat (flat_pts _ _) _ | exact viewG_flat (flat_ixV _ _) _ | exact viewG_flat (flat_sv _ _) _ | exact viewG_ixT rfl (by assumption) (by omega) | exact viewG_ptsL rfl (by first | omega | (simp; done) | (simp; omega)) | exact viewG_ix rfl (by first | omega | (simp; omega)) | exact viewG_flat rfl _; done))); (focus (refine c32 _ <;> first | omega | assumption)); (focus rfl); simp (maxSteps := 4000000) (disch := omega) only [dr0, dr1, dr2, dr3, dr4, if_true, if_false, Option.some.injEq, Nat.reduceEqDiff, Int.reduceToNat, Nat.reduceSub, Nat.reduceAdd, Nat.reduceMul, Nat.reduceLT, Nat.reduceLeDiff, reduceCtorEq, ↓reduceIte, catT, enc0, enc1, if_pos, if_neg])
        | (refine gX_split (fun hb => ?_) (fun hb => ?_) <;> (try simp only [hb]) <;> (try simp only [bset0, reduceCtorEq] at hb) <;> first | omega | simp (maxSteps := 4000000) (disch := omega) only [dr0, dr1, dr2, dr3, dr4, if_true, if_false, Option.some.injEq, Nat.reduceEqDiff, Int.reduceToNat, Nat.reduceSub, Nat.reduceAdd, Nat.reduceMul, Nat.reduceLT, Nat.reduceLeDiff, reduceCtorEq, ↓reduceIte, catT, enc0, enc1, if_pos, if_neg])
        | (refine CWx.br rfl (fun hb => ?_) (fun hb => ?_) <;> first | exact Bool.noConfusion hb | (first | (simp only [bset0, reduceCtorEq] at hb; done) | ((try simp only [bset0, reduceCtorEq] at hb); first | omega | skip)))
        | (refine CWx.e fun K hK => ?_; simp (maxSteps := 4000000) (disch := omega) only [dr0, dr1, dr2, dr3, dr4, if_true, if_false, Option.some.injEq, Nat.reduceEqDiff, Int.reduceToNat, Nat.reduceSub, Nat.reduceAdd, Nat.reduceMul, Nat.reduceLT, Nat.reduceLeDiff, reduceCtorEq, ↓reduceIte, catT, enc0, enc1, if_pos, if_neg])
        | (refine CWx.block (id := 2) ?_; refine CWx.loopK (ι := Nat × Bool) [2, 3, 67, 68] (fun i => a.length - i.1) (fun i => [(69, .int .i64 (i.1 : Int)), (11, .bool i.2)]) (fun i => [.row false 0 false 1 [pts a], .row false 0 false 1 [pts b], .row false 0 false 2 [pt (0, 0)], .row false 0 false 1 [.int .i64 0]]) (fun i => i.1 ≤ a.length ∧ ((z1 || z2) = true → i.2 = true) ∧ ∀ x, x < i.1 → ∀ j, j < a.length → ∀ s, s < b.length → ∀ t, t < b.length → crB a b x j s t = true → i.2 = true) (fun i => by simp only [keepA, Am.get, List.cons_append, List.nil_append, Nat.reduceEqDiff, ↓reduceIte]; exact rfl) ((0, z1 || z2)) ?_ ?_ (fun i hi => ?_); (focus (exact ⟨Nat.zero_le _, fun h => h, fun x hx => absurd hx (Nat.not_lt_zero _)⟩; done)); (focus (refine Fgt.mk' 4 (by simp) ?_ ?_ ?_ <;> simp [-List.map_take, -List.map_map, AV.isY, ltL_append, ix_nil, keepB, Am.get, AV.lt, ltL, lt_pts, lt_pt, lt_ixV, ltL_ix, ltL_pt, Blk.lt, ltB, hb]; done)); have Hi := hi; (skip))
        | (refine CWx.block (id := 4) ?_; refine CWx.loopK (ι := Nat × Bool) [2, 3, 13, 67, 68, 69, 73, 74] (fun j => a.length - j.1) (fun j => [(75, .int .i64 (j.1 : Int)), (11, .bool j.2)]) (fun j => [.row false 0 false 1 [pts a], .row false 0 false 1 [pts b], .row false 0 false 2 [pt (0, 0)], .row false 0 false 1 [.int .i64 0], .row false 0 false 2 [pt (P a i.1)]]) (fun j => j.1 ≤ a.length ∧ (i.2 = true → j.2 = true) ∧ ∀ x, x < j.1 → ∀ s, s < b.length → ∀ t, t < b.length → crB a b i.1 x s t = true → j.2 = true) (fun i => by simp only [keepA, Am.get, List.cons_append, List.nil_append, Nat.reduceEqDiff, ↓reduceIte]; exact rfl) ((0, i.2)) ?_ ?_ (fun j hi => ?_); (focus (exact ⟨Nat.zero_le _, fun h => h, fun x hx => absurd hx (Nat.not_lt_zero _)⟩; done)); (focus (refine Fgt.mk' 5 (by simp) ?_ ?_ ?_ <;> simp [-List.map_take, -List.map_map, AV.isY, ltL_append, ix_nil, keepB, Am.get, AV.lt, ltL, lt_pts, lt_pt, lt_ixV, ltL_ix, ltL_pt, Blk.lt, ltB]; done)); have Hj := hi; (skip))
        | (refine CWx.block (id := 6) ?_; refine CWx.loopK (ι := Nat × Bool) [2, 3, 13, 15, 67, 68, 69, 73, 74, 75, 79, 80] (fun s => b.length - s.1) (fun s => [(81, .int .i64 (s.1 : Int)), (11, .bool s.2)]) (fun s => [.row false 0 false 1 [pts a], .row false 0 false 1 [pts b], .row false 0 false 2 [pt (0, 0)], .row false 0 false 1 [.int .i64 0], .row false 0 false 2 [pt (P a i.1)], .row false 0 false 2 [pt (P a j.1)]]) (fun s => s.1 ≤ b.length ∧ (j.2 = true → s.2 = true) ∧ ∀ x, x < s.1 → ∀ t, t < b.length → crB a b i.1 j.1 x t = true → s.2 = true) (fun i => by simp only [keepA, Am.get, List.cons_append, List.nil_append, Nat.reduceEqDiff, ↓reduceIte]; exact rfl) ((0, j.2)) ?_ ?_ (fun s hi => ?_); (focus (exact ⟨Nat.zero_le _, fun h => h, fun x hx => absurd hx (Nat.not_lt_zero _)⟩; done)); (focus (refine Fgt.mk' 6 (by simp) ?_ ?_ ?_ <;> simp [-List.map_take, -List.map_map, AV.isY, ltL_append, ix_nil, keepB, Am.get, AV.lt, ltL, lt_pts, lt_pt, lt_ixV, ltL_ix, ltL_pt, Blk.lt, ltB]; done)); have Hs := hi; (skip))
        | (refine CWx.block (id := 8) ?_; refine CWx.loopK (ι := Nat × Bool) [2, 3, 13, 15, 17, 67, 68, 69, 73, 74, 75, 79, 80, 81, 85, 86] (fun t => b.length - t.1) (fun t => [(87, .int .i64 (t.1 : Int)), (11, .bool t.2)]) (fun t => [.row false 0 false 1 [pts a], .row false 0 false 1 [pts b], .row false 0 false 2 [pt (0, 0)], .row false 0 false 1 [.int .i64 0], .row false 0 false 2 [pt (P a i.1)], .row false 0 false 2 [pt (P a j.1)], .row false 0 false 2 [pt (P b s.1)]]) (fun t => t.1 ≤ b.length ∧ (s.2 = true → t.2 = true) ∧ ∀ x, x < t.1 → crB a b i.1 j.1 s.1 x = true → t.2 = true) (fun i => by simp only [keepA, Am.get, List.cons_append, List.nil_append, Nat.reduceEqDiff, ↓reduceIte]; exact rfl) ((0, s.2)) ?_ ?_ (fun t hi => ?_); (focus (exact ⟨Nat.zero_le _, fun h => h, fun x hx => absurd hx (Nat.not_lt_zero _)⟩; done)); (focus (refine Fgt.mk' 7 (by simp) ?_ ?_ ?_ <;> simp [-List.map_take, -List.map_map, AV.isY, ltL_append, ix_nil, keepB, Am.get, AV.lt, ltL, lt_pts, lt_pt, lt_ixV, ltL_ix, ltL_pt, Blk.lt, ltB]; done)); have Ht := hi; ((rcases t with ⟨t, _ | _⟩ <;> dsimp only at hi ⊢) <;> (have g1 := sgm (left (P a i.1) (P a j.1) (P b s.1)) (left (P a i.1) (P a j.1) (P b t))); (have g2 := sgm (left (P b s.1) (P b t) (P a i.1)) (left (P b s.1) (P b t) (P a j.1))); (have g3 := g1.1.1); (have g4 := g1.1.2); (have g5 := g2.1.1); (have g6 := g2.1.2); (clear g1 g2)))
        | refine CWx.seq ?_
        | refine CWx.block (id := 1) ?_
        | refine CWx.block (id := 3) ?_
        | refine CWx.block (id := 5) ?_
        | refine CWx.block (id := 7) ?_
        | refine CWx.block (id := 9) ?_
        | refine CWx.skip ?_
        | (refine CWx.exit (id := 2) ?_; (have hz := fin (z1 || z2) i.2 rfl Hi.2.1 (fun x hx => Hi.2.2 x (by omega))); simp only [hz])
        | refine CWx.exit ?_
        | (refine CWx.ret fun al hal => finK_ext hal (finK_pure (.inr rfl) (by simp only [resRV, Am.get, Nat.reduceEqDiff, ↓reduceIte]; exact rfl) ?_ ?_); (focus (first | (rfl; done) | (rfl; done) | ((simp only [tupAV]; congr <;> omega); done) | (simp [tupAV, *]; done))); (focus (first | rfl | (simp [AV.allR, allRL, allRL_ix]; done))))
        | (intro al hal; refine ⟨(t + 1, true), ?_, ?_, Fgt.ofx hal ?_⟩; (focus (first | omega | (dsimp only; omega))); (focus (exact ⟨by dsimp only; omega, fun _ => rfl, fun _ _ _ => rfl⟩; done)); (focus (refine Fgt.mk' 7 (by simp) ?_ ?_ ?_ <;> simp [-List.map_take, -List.map_map, AV.isY, ltL_append, ix_nil, keepB, Am.get, AV.lt, ltL, lt_pts, lt_pt, lt_ixV, ltL_ix, ltL_pt, Blk.lt, ltB]; done)))
        | (intro al hal; refine ⟨(t + 1, false), ?_, ?_, Fgt.ofx hal ?_⟩; (focus (first | omega | (dsimp only; omega))); (focus ((refine ⟨?_, hi.2.1, allUp hi.2.2 (fun hc => ?_)⟩; (focus (dsimp only; omega)); (focus (simp only [crB, decide_eq_true_eq] at hc; omega))); done)); (focus (refine Fgt.mk' 7 (by simp) ?_ ?_ ?_ <;> simp [-List.map_take, -List.map_map, AV.isY, ltL_append, ix_nil, keepB, Am.get, AV.lt, ltL, lt_pts, lt_pt, lt_ixV, ltL_ix, ltL_pt, Blk.lt, ltB]; done)))
        | (intro al hal; refine ⟨(t + 1, decide (sgn (left (P b s.1) (P b t) (P a i.1)) * sgn (left (P b s.1) (P b t) (P a j.1)) < 0)), ?_, ?_, Fgt.ofx hal ?_⟩; (focus (first | omega | (dsimp only; omega))); (focus (exact ⟨by dsimp only; omega, fun h => Bool.noConfusion (hi.2.1 h), allUp (fun x hx hc => Bool.noConfusion (hi.2.2 x hx hc)) (fun hc => decide_eq_true (of_decide_eq_true hc).2)⟩; done)); (focus (refine Fgt.mk' 7 (by simp) ?_ ?_ ?_ <;> simp [-List.map_take, -List.map_map, AV.isY, ltL_append, ix_nil, keepB, Am.get, AV.lt, ltL, lt_pts, lt_pt, lt_ixV, ltL_ix, ltL_pt, Blk.lt, ltB]; done)))
        | (intro al hal; refine ⟨(s.1 + 1, true), ?_, ?_, Fgt.ofx hal ?_⟩; (focus (first | omega | (dsimp only; omega))); (focus (exact ⟨by dsimp only; omega, fun h => hi.2.1 (Hs.2.1 h), allUp (fun x hx y hy hc => hi.2.1 (Hs.2.2 x hx y hy hc)) (fun y hy hc => hi.2.2 y (by omega) hc)⟩; done)); (focus (refine Fgt.mk' 6 (by simp) ?_ ?_ ?_ <;> simp [-List.map_take, -List.map_map, AV.isY, ltL_append, ix_nil, keepB, Am.get, AV.lt, ltL, lt_pts, lt_pt, lt_ixV, ltL_ix, ltL_pt, Blk.lt, ltB]; done)))
        | (intro al hal; refine ⟨(s.1 + 1, false), ?_, ?_, Fgt.ofx hal ?_⟩; (focus (first | omega | (dsimp only; omega))); (focus (exact ⟨by dsimp only; omega, fun h => hi.2.1 (Hs.2.1 h), allUp (fun x hx y hy hc => hi.2.1 (Hs.2.2 x hx y hy hc)) (fun y hy hc => hi.2.2 y (by omega) hc)⟩; done)); (focus (refine Fgt.mk' 6 (by simp) ?_ ?_ ?_ <;> simp [-List.map_take, -List.map_map, AV.isY, ltL_append, ix_nil, keepB, Am.get, AV.lt, ltL, lt_pts, lt_pt, lt_ixV, ltL_ix, ltL_pt, Blk.lt, ltB]; done)))
        | (intro al hal; refine ⟨(j.1 + 1, s.2), ?_, ?_, Fgt.ofx hal ?_⟩; (focus (first | omega | (dsimp only; omega))); (focus (exact ⟨by dsimp only; omega, fun h => hi.2.1 (Hj.2.1 h), allUp (fun x hx y hy z hz hc => hi.2.1 (Hj.2.2 x hx y hy z hz hc)) (fun y hy z hz hc => hi.2.2 y (by omega) z hz hc)⟩; done)); (focus (refine Fgt.mk' 5 (by simp) ?_ ?_ ?_ <;> simp [-List.map_take, -List.map_map, AV.isY, ltL_append, ix_nil, keepB, Am.get, AV.lt, ltL, lt_pts, lt_pt, lt_ixV, ltL_ix, ltL_pt, Blk.lt, ltB]; done)))
        | (intro al hal; refine ⟨(i.1 + 1, j.2), ?_, ?_, Fgt.ofx hal ?_⟩; (focus (first | omega | (dsimp only; omega))); (focus (exact ⟨by dsimp only; omega, fun h => hi.2.1 (Hi.2.1 h), allUp (fun x hx y hy z hz w hw hc => hi.2.1 (Hi.2.2 x hx y hy z hz w hw hc)) (fun y hy z hz w hw hc => hi.2.2 y (by omega) z hz w hw hc)⟩; done)); (focus (refine Fgt.mk' 4 (by simp) ?_ ?_ ?_ <;> simp [-List.map_take, -List.map_map, AV.isY, ltL_append, ix_nil, keepB, Am.get, AV.lt, ltL, lt_pts, lt_pt, lt_ixV, ltL_ix, ltL_pt, Blk.lt, ltB, hb]; done)))
  · have hr' : ra = false ∨ rb = false := by
      cases ra with
      | false => exact .inl rfl
      | true =>
        cases rb with
        | false => exact .inr rfl
        | true => exact absurd ⟨rfl, rfl⟩ hr
    rcases hr' with h | h
    · rw [h] at ka
      refine callsF_cwx hm hf6 (by simp [cf6]) ?_
      simp only [cf6, argsAl]
      repeat' first
        | (refine hK _ _ _ (by first | exact fun h => Bool.noConfusion h | exact fun _ => rfl) ?_; clear hK K)
        | (refine CWx.r fun K hK => ?_; simp (maxSteps := 4000000) (disch := omega) only [dr0, dr1, dr2, dr3, dr4, if_true, if_false, Option.some.injEq, Nat.reduceEqDiff, Int.reduceToNat, Nat.reduceSub, Nat.reduceAdd, Nat.reduceMul, Nat.reduceLT, Nat.reduceLeDiff, reduceCtorEq, ↓reduceIte, catT, enc0, enc1, if_pos, if_neg])
        | refine CWx.go ?_
        | (apply RCx.view (fid := 25) (caps := []) rfl rfl; (focus ((simp only [evsA, evA_t, evA_c, Am.get, Nat.reduceEqDiff, ↓reduceIte, List.nil_append, List.cons_append, List.append_nil]; repeat' first | exact viewArgs_nil | apply viewArgs_cons | exact viewG_flat (flat_pts _ _) _ | exact viewG_flat (flat_ixV _ _) _ | exact viewG_flat (flat_sv _ _) _ | exact viewG_ixT rfl (by assumption) (by omega) | exact viewG_ptsL rfl (by first | omega | (simp; done) | (simp; omega)) | exact viewG_ix rfl (by first | omega | (simp; omega)) | exact viewG_flat rfl _; done))); (focus (refine ka <;> first | omega | assumption)); (focus rfl); simp (maxSteps := 4000000) (disch := omega) only [dr0, dr1, dr2, dr3, dr4, if_true, if_false, Option.some.injEq, Nat.reduceEqDiff, Int.reduceToNat, Nat.reduceSub, Nat.reduceAdd, Nat.reduceMul, Nat.reduceLT, Nat.reduceLeDiff, reduceCtorEq, ↓reduceIte, catT, enc0, enc1, if_pos, if_neg])
        | (apply RCx.view (fid := 25) (caps := []) rfl rfl; (focus ((simp only [evsA, evA_t, evA_c, Am.get, Nat.reduceEqDiff, ↓reduceIte, List.nil_append, List.cons_append, List.append_nil]; repeat' first | exact viewArgs_nil | apply viewArgs_cons | exact viewG_flat (flat_pts _ _) _ | exact viewG_flat (flat_ixV _ _) _ | exact viewG_flat (flat_sv _ _) _ | exact viewG_ixT rfl (by assumption) (by omega) | exact viewG_ptsL rfl (by first | omega | (simp; done) | (simp; omega)) | exact viewG_ix rfl (by first | omega | (simp; omega)) | exact viewG_flat rfl _; done))); (focus (refine kb <;> first | omega | assumption)); (focus rfl); simp (maxSteps := 4000000) (disch := omega) only [dr0, dr1, dr2, dr3, dr4, if_true, if_false, Option.some.injEq, Nat.reduceEqDiff, Int.reduceToNat, Nat.reduceSub, Nat.reduceAdd, Nat.reduceMul, Nat.reduceLT, Nat.reduceLeDiff, reduceCtorEq, ↓reduceIte, catT, enc0, enc1, if_pos, if_neg])
        | (apply RCx.view (fid := 12) (caps := []) rfl rfl; (focus ((simp only [evsA, evA_t, evA_c, Am.get, Nat.reduceEqDiff, ↓reduceIte, List.nil_append, List.cons_append, List.append_nil]; repeat' first | exact viewArgs_nil | apply viewArgs_cons | exact viewG_flat (flat_pts _ _) _ | exact viewG_flat (flat_ixV _ _) _ | exact viewG_flat (flat_sv _ _) _ | exact viewG_ixT rfl (by assumption) (by omega) | exact viewG_ptsL rfl (by first | omega | (simp; done) | (simp; omega)) | exact viewG_ix rfl (by first | omega | (simp; omega)) | exact viewG_flat rfl _; done))); (focus (refine Aw.x_awake <;> first | omega | assumption)); (focus rfl); simp (maxSteps := 4000000) (disch := omega) only [dr0, dr1, dr2, dr3, dr4, if_true, if_false, Option.some.injEq, Nat.reduceEqDiff, Int.reduceToNat, Nat.reduceSub, Nat.reduceAdd, Nat.reduceMul, Nat.reduceLT, Nat.reduceLeDiff, reduceCtorEq, ↓reduceIte, catT, enc0, enc1, if_pos, if_neg])
        | (refine gX_split (fun hb => ?_) (fun hb => ?_) <;> (try simp only [hb]) <;> (try simp only [bset0, reduceCtorEq] at hb) <;> simp (maxSteps := 4000000) (disch := omega) only [dr0, dr1, dr2, dr3, dr4, if_true, if_false, Option.some.injEq, Nat.reduceEqDiff, Int.reduceToNat, Nat.reduceSub, Nat.reduceAdd, Nat.reduceMul, Nat.reduceLT, Nat.reduceLeDiff, reduceCtorEq, ↓reduceIte, catT, enc0, enc1, if_pos, if_neg])
        | (refine CWx.br rfl (fun hb => ?_) (fun hb => ?_) <;> first | exact Bool.noConfusion hb | (first | (simp only [bset0, reduceCtorEq] at hb; done) | ((try simp only [bset0, reduceCtorEq] at hb); first | contradiction | skip)))
        | (refine CWx.e fun K hK => ?_; simp (maxSteps := 4000000) (disch := omega) only [dr0, dr1, dr2, dr3, dr4, if_true, if_false, Option.some.injEq, Nat.reduceEqDiff, Int.reduceToNat, Nat.reduceSub, Nat.reduceAdd, Nat.reduceMul, Nat.reduceLT, Nat.reduceLeDiff, reduceCtorEq, ↓reduceIte, catT, enc0, enc1, if_pos, if_neg])
        | refine CWx.seq ?_
        | refine CWx.block (id := 1) ?_
        | refine CWx.block (id := 3) ?_
        | refine CWx.block (id := 5) ?_
        | refine CWx.block (id := 7) ?_
        | refine CWx.block (id := 9) ?_
        | refine CWx.skip ?_
        | refine CWx.exit ?_
        | (refine CWx.ret fun al hal => finK_ext hal (finK_pure (.inr rfl) (by simp only [resRV, Am.get, Nat.reduceEqDiff, ↓reduceIte]; exact rfl) ?_ ?_); (focus (first | (rfl; done) | (rfl; done) | ((simp only [tupAV]; congr <;> omega); done) | (simp [tupAV, *]; done))); (focus (first | rfl | (simp [AV.allR, allRL, allRL_ix]; done))))
    · rw [h] at kb
      refine callsF_cwx hm hf6 (by simp [cf6]) ?_
      simp only [cf6, argsAl]
      repeat' first
        | (refine hK _ _ _ (by first | exact fun h => Bool.noConfusion h | exact fun _ => rfl) ?_; clear hK K)
        | (refine CWx.r fun K hK => ?_; simp (maxSteps := 4000000) (disch := omega) only [dr0, dr1, dr2, dr3, dr4, if_true, if_false, Option.some.injEq, Nat.reduceEqDiff, Int.reduceToNat, Nat.reduceSub, Nat.reduceAdd, Nat.reduceMul, Nat.reduceLT, Nat.reduceLeDiff, reduceCtorEq, ↓reduceIte, catT, enc0, enc1, if_pos, if_neg])
        | refine CWx.go ?_
        | (apply RCx.view (fid := 25) (caps := []) rfl rfl; (focus ((simp only [evsA, evA_t, evA_c, Am.get, Nat.reduceEqDiff, ↓reduceIte, List.nil_append, List.cons_append, List.append_nil]; repeat' first | exact viewArgs_nil | apply viewArgs_cons | exact viewG_flat (flat_pts _ _) _ | exact viewG_flat (flat_ixV _ _) _ | exact viewG_flat (flat_sv _ _) _ | exact viewG_ixT rfl (by assumption) (by omega) | exact viewG_ptsL rfl (by first | omega | (simp; done) | (simp; omega)) | exact viewG_ix rfl (by first | omega | (simp; omega)) | exact viewG_flat rfl _; done))); (focus (refine ka <;> first | omega | assumption)); (focus rfl); simp (maxSteps := 4000000) (disch := omega) only [dr0, dr1, dr2, dr3, dr4, if_true, if_false, Option.some.injEq, Nat.reduceEqDiff, Int.reduceToNat, Nat.reduceSub, Nat.reduceAdd, Nat.reduceMul, Nat.reduceLT, Nat.reduceLeDiff, reduceCtorEq, ↓reduceIte, catT, enc0, enc1, if_pos, if_neg])
        | (apply RCx.view (fid := 25) (caps := []) rfl rfl; (focus ((simp only [evsA, evA_t, evA_c, Am.get, Nat.reduceEqDiff, ↓reduceIte, List.nil_append, List.cons_append, List.append_nil]; repeat' first | exact viewArgs_nil | apply viewArgs_cons | exact viewG_flat (flat_pts _ _) _ | exact viewG_flat (flat_ixV _ _) _ | exact viewG_flat (flat_sv _ _) _ | exact viewG_ixT rfl (by assumption) (by omega) | exact viewG_ptsL rfl (by first | omega | (simp; done) | (simp; omega)) | exact viewG_ix rfl (by first | omega | (simp; omega)) | exact viewG_flat rfl _; done))); (focus (refine kb <;> first | omega | assumption)); (focus rfl); simp (maxSteps := 4000000) (disch := omega) only [dr0, dr1, dr2, dr3, dr4, if_true, if_false, Option.some.injEq, Nat.reduceEqDiff, Int.reduceToNat, Nat.reduceSub, Nat.reduceAdd, Nat.reduceMul, Nat.reduceLT, Nat.reduceLeDiff, reduceCtorEq, ↓reduceIte, catT, enc0, enc1, if_pos, if_neg])
        | (apply RCx.view (fid := 12) (caps := []) rfl rfl; (focus ((simp only [evsA, evA_t, evA_c, Am.get, Nat.reduceEqDiff, ↓reduceIte, List.nil_append, List.cons_append, List.append_nil]; repeat' first | exact viewArgs_nil | apply viewArgs_cons | exact viewG_flat (flat_pts _ _) _ | exact viewG_flat (flat_ixV _ _) _ | exact viewG_flat (flat_sv _ _) _ | exact viewG_ixT rfl (by assumption) (by omega) | exact viewG_ptsL rfl (by first | omega | (simp; done) | (simp; omega)) | exact viewG_ix rfl (by first | omega | (simp; omega)) | exact viewG_flat rfl _; done))); (focus (refine Aw.x_awake <;> first | omega | assumption)); (focus rfl); simp (maxSteps := 4000000) (disch := omega) only [dr0, dr1, dr2, dr3, dr4, if_true, if_false, Option.some.injEq, Nat.reduceEqDiff, Int.reduceToNat, Nat.reduceSub, Nat.reduceAdd, Nat.reduceMul, Nat.reduceLT, Nat.reduceLeDiff, reduceCtorEq, ↓reduceIte, catT, enc0, enc1, if_pos, if_neg])
        | (refine gX_split (fun hb => ?_) (fun hb => ?_) <;> (try simp only [hb]) <;> (try simp only [bset0, reduceCtorEq] at hb) <;> simp (maxSteps := 4000000) (disch := omega) only [dr0, dr1, dr2, dr3, dr4, if_true, if_false, Option.some.injEq, Nat.reduceEqDiff, Int.reduceToNat, Nat.reduceSub, Nat.reduceAdd, Nat.reduceMul, Nat.reduceLT, Nat.reduceLeDiff, reduceCtorEq, ↓reduceIte, catT, enc0, enc1, if_pos, if_neg])
        | (refine CWx.br rfl (fun hb => ?_) (fun hb => ?_) <;> first | exact Bool.noConfusion hb | (first | (simp only [bset0, reduceCtorEq] at hb; done) | ((try simp only [bset0, reduceCtorEq] at hb); first | contradiction | skip)))
        | (refine CWx.e fun K hK => ?_; simp (maxSteps := 4000000) (disch := omega) only [dr0, dr1, dr2, dr3, dr4, if_true, if_false, Option.some.injEq, Nat.reduceEqDiff, Int.reduceToNat, Nat.reduceSub, Nat.reduceAdd, Nat.reduceMul, Nat.reduceLT, Nat.reduceLeDiff, reduceCtorEq, ↓reduceIte, catT, enc0, enc1, if_pos, if_neg])
        | refine CWx.seq ?_
        | refine CWx.block (id := 1) ?_
        | refine CWx.block (id := 3) ?_
        | refine CWx.block (id := 5) ?_
        | refine CWx.block (id := 7) ?_
        | refine CWx.block (id := 9) ?_
        | refine CWx.skip ?_
        | refine CWx.exit ?_
        | (refine CWx.ret fun al hal => finK_ext hal (finK_pure (.inr rfl) (by simp only [resRV, Am.get, Nat.reduceEqDiff, ↓reduceIte]; exact rfl) ?_ ?_); (focus (first | (rfl; done) | (rfl; done) | ((simp only [tupAV]; congr <;> omega); done) | (simp [tupAV, *]; done))); (focus (first | rfl | (simp [AV.allR, allRL, allRL_ix]; done))))
end Go.Hull
end
