/- The reference's tests: between, within, in the hull, vertex, follows: walks.
   Conditions: the points are in range. -/
import Derived.Test.YtkbpkbjfphdgeaaPart12
section
set_option linter.unusedSimpArgs false
set_option linter.unusedVariables false
set_option maxHeartbeats 8000000
set_option maxRecDepth 100000
namespace Go.Hull
open Go Go.Am Go.Proofs

theorem c32 (n : Int) : CallsF Try.prog 32 [.int .i64 n] [] (.int .i64 (sgn n)) [] := by
  refine callsF_cwx hm hf32 (by simp [cf32]) ?_
  simp only [cf32, argsAl]
  repeat' first
    | (refine hK _ _ _ (by first | exact fun h => Bool.noConfusion h | exact fun _ => rfl) ?_; clear hK K)
    | (refine CWx.r fun K hK => ?_; simp (maxSteps := 4000000) (disch := omega) only [dr0, dr1, dr2, dr3, dr4, if_true, if_false, Option.some.injEq, Nat.reduceEqDiff, Int.reduceToNat, Nat.reduceSub, Nat.reduceAdd, Nat.reduceMul, Nat.reduceLT, Nat.reduceLeDiff, reduceCtorEq, ↓reduceIte, catT, enc0, enc1, if_pos, if_neg])
    | refine CWx.go ?_
    | (refine gX_split (fun hb => ?_) (fun hb => ?_) <;> (try simp only [hb]) <;> (try simp only [bset0, reduceCtorEq] at hb) <;> simp (maxSteps := 4000000) (disch := omega) only [dr0, dr1, dr2, dr3, dr4, if_true, if_false, Option.some.injEq, Nat.reduceEqDiff, Int.reduceToNat, Nat.reduceSub, Nat.reduceAdd, Nat.reduceMul, Nat.reduceLT, Nat.reduceLeDiff, reduceCtorEq, ↓reduceIte, catT, enc0, enc1, if_pos, if_neg])
    | (refine CWx.br rfl (fun hb => ?_) (fun hb => ?_) <;> first | exact Bool.noConfusion hb | (first | (simp only [bset0, reduceCtorEq] at hb; done) | ((try simp only [bset0, reduceCtorEq] at hb); first | contradiction | skip)))
    | (refine CWx.e fun K hK => ?_; simp (maxSteps := 4000000) (disch := omega) only [dr0, dr1, dr2, dr3, dr4, if_true, if_false, Option.some.injEq, Nat.reduceEqDiff, Int.reduceToNat, Nat.reduceSub, Nat.reduceAdd, Nat.reduceMul, Nat.reduceLT, Nat.reduceLeDiff, reduceCtorEq, ↓reduceIte, catT, enc0, enc1, if_pos, if_neg])
    | refine CWx.seq ?_
    | refine CWx.skip ?_
    | refine CWx.exit ?_
    | (refine CWx.ret fun al hal => finK_ext hal (finK_pure (.inr rfl) (by simp only [resRV, Am.get, Nat.reduceEqDiff, ↓reduceIte]; exact rfl) ?_ ?_); (focus (first | ((simp only [tupAV, sgn]; congr 1; split <;> first | omega | (split <;> omega)); done) | (rfl; done) | ((simp only [tupAV]; congr <;> omega); done) | (simp [tupAV, *]; done))); (focus (first | rfl | (simp [AV.allR, allRL, allRL_ix]; done))))
theorem c72 {p a b : Pt} (hp : okP p = true) (ha : okP a = true) (hb' : okP b = true) : CallsF Try.prog 72 [pt p, pt a, pt b] [] (.bool (betw p a b)) [] := by
  refine callsF_cwx hm hf72 (by simp [cf72]) ?_
  simp only [cf72, argsAl]
  repeat' first
    | (refine hK _ _ _ (by first | exact fun h => Bool.noConfusion h | exact fun _ => rfl) ?_; clear hK K)
    | (refine CWx.r fun K hK => ?_; simp (maxSteps := 4000000) (disch := omega) only [dr0, dr1, dr2, dr3, dr4, if_true, if_false, Option.some.injEq, Nat.reduceEqDiff, Int.reduceToNat, Nat.reduceSub, Nat.reduceAdd, Nat.reduceMul, Nat.reduceLT, Nat.reduceLeDiff, reduceCtorEq, ↓reduceIte, catT, enc0, enc1, if_pos, if_neg])
    | refine CWx.go ?_
    | (apply RCx.view (fid := 33) (caps := []) rfl rfl; (focus ((simp only [evsA, evA_t, evA_c, Am.get, Nat.reduceEqDiff, ↓reduceIte, List.nil_append, List.cons_append, List.append_nil]; repeat' first | exact viewArgs_nil | apply viewArgs_cons | exact viewG_flat (flat_pts _ _) _ | exact viewG_flat (flat_ixV _ _) _ | exact viewG_flat (flat_sv _ _) _ | exact viewG_ixT rfl (by assumption) (by omega) | exact viewG_ptsL rfl (by first | omega | (simp; done) | (simp; omega)) | exact viewG_ix rfl (by first | omega | (simp; omega)) | exact viewG_flat rfl _; done))); (focus (refine c33 ha hb' hp <;> first | omega | assumption)); (focus rfl); simp (maxSteps := 4000000) (disch := omega) only [dr0, dr1, dr2, dr3, dr4, if_true, if_false, Option.some.injEq, Nat.reduceEqDiff, Int.reduceToNat, Nat.reduceSub, Nat.reduceAdd, Nat.reduceMul, Nat.reduceLT, Nat.reduceLeDiff, reduceCtorEq, ↓reduceIte, catT, enc0, enc1, if_pos, if_neg])
    | (apply RCx.view (fid := 75) (caps := []) rfl rfl; (focus ((simp only [evsA, evA_t, evA_c, Am.get, Nat.reduceEqDiff, ↓reduceIte, List.nil_append, List.cons_append, List.append_nil]; repeat' first | exact viewArgs_nil | apply viewArgs_cons | exact viewG_flat (flat_pts _ _) _ | exact viewG_flat (flat_ixV _ _) _ | exact viewG_flat (flat_sv _ _) _ | exact viewG_ixT rfl (by assumption) (by omega) | exact viewG_ptsL rfl (by first | omega | (simp; done) | (simp; omega)) | exact viewG_ix rfl (by first | omega | (simp; omega)) | exact viewG_flat rfl _; done))); (focus (refine c75 ha hp <;> first | omega | assumption)); (focus rfl); simp (maxSteps := 4000000) (disch := omega) only [dr0, dr1, dr2, dr3, dr4, if_true, if_false, Option.some.injEq, Nat.reduceEqDiff, Int.reduceToNat, Nat.reduceSub, Nat.reduceAdd, Nat.reduceMul, Nat.reduceLT, Nat.reduceLeDiff, reduceCtorEq, ↓reduceIte, catT, enc0, enc1, if_pos, if_neg])
    | (apply RCx.view (fid := 75) (caps := []) rfl rfl; (focus ((simp only [evsA, evA_t, evA_c, Am.get, Nat.reduceEqDiff, ↓reduceIte, List.nil_append, List.cons_append, List.append_nil]; repeat' first | exact viewArgs_nil | apply viewArgs_cons | exact viewG_flat (flat_pts _ _) _ | exact viewG_flat (flat_ixV _ _) _ | exact viewG_flat (flat_sv _ _) _ | exact viewG_ixT rfl (by assumption) (by omega) | exact viewG_ptsL rfl (by first | omega | (simp; done) | (simp; omega)) | exact viewG_ix rfl (by first | omega | (simp; omega)) | exact viewG_flat rfl _; done))); (focus (refine c75 hb' hp <;> first | omega | assumption)); (focus rfl); simp (maxSteps := 4000000) (disch := omega) only [dr0, dr1, dr2, dr3, dr4, if_true, if_false, Option.some.injEq, Nat.reduceEqDiff, Int.reduceToNat, Nat.reduceSub, Nat.reduceAdd, Nat.reduceMul, Nat.reduceLT, Nat.reduceLeDiff, reduceCtorEq, ↓reduceIte, catT, enc0, enc1, if_pos, if_neg])
    | (apply RCx.view (fid := 26) (caps := []) rfl rfl; (focus ((simp only [evsA, evA_t, evA_c, Am.get, Nat.reduceEqDiff, ↓reduceIte, List.nil_append, List.cons_append, List.append_nil]; repeat' first | exact viewArgs_nil | apply viewArgs_cons | exact viewG_flat (flat_pts _ _) _ | exact viewG_flat (flat_ixV _ _) _ | exact viewG_flat (flat_sv _ _) _ | exact viewG_ixT rfl (by assumption) (by omega) | exact viewG_ptsL rfl (by first | omega | (simp; done) | (simp; omega)) | exact viewG_ix rfl (by first | omega | (simp; omega)) | exact viewG_flat rfl _; done))); (focus (refine c26 (sub_small ha hp) (sub_small hb' hp) <;> first | omega | assumption)); (focus rfl); simp (maxSteps := 4000000) (disch := omega) only [dr0, dr1, dr2, dr3, dr4, if_true, if_false, Option.some.injEq, Nat.reduceEqDiff, Int.reduceToNat, Nat.reduceSub, Nat.reduceAdd, Nat.reduceMul, Nat.reduceLT, Nat.reduceLeDiff, reduceCtorEq, ↓reduceIte, catT, enc0, enc1, if_pos, if_neg])
    | (refine gX_split (fun hb => ?_) (fun hb => ?_) <;> (try simp only [hb]) <;> (try simp only [bset0, reduceCtorEq] at hb) <;> simp (maxSteps := 4000000) (disch := omega) only [dr0, dr1, dr2, dr3, dr4, if_true, if_false, Option.some.injEq, Nat.reduceEqDiff, Int.reduceToNat, Nat.reduceSub, Nat.reduceAdd, Nat.reduceMul, Nat.reduceLT, Nat.reduceLeDiff, reduceCtorEq, ↓reduceIte, catT, enc0, enc1, if_pos, if_neg])
    | (refine CWx.br rfl (fun hb => ?_) (fun hb => ?_) <;> first | exact Bool.noConfusion hb | (first | (simp only [bset0, reduceCtorEq] at hb; done) | ((try simp only [bset0, reduceCtorEq] at hb); first | contradiction | skip)))
    | (refine CWx.e fun K hK => ?_; simp (maxSteps := 4000000) (disch := omega) only [dr0, dr1, dr2, dr3, dr4, if_true, if_false, Option.some.injEq, Nat.reduceEqDiff, Int.reduceToNat, Nat.reduceSub, Nat.reduceAdd, Nat.reduceMul, Nat.reduceLT, Nat.reduceLeDiff, reduceCtorEq, ↓reduceIte, catT, enc0, enc1, if_pos, if_neg])
    | refine CWx.seq ?_
    | refine CWx.skip ?_
    | refine CWx.exit ?_
    | (refine CWx.ret fun al hal => finK_ext hal (finK_pure (.inr rfl) (by simp only [resRV, Am.get, Nat.reduceEqDiff, ↓reduceIte]; exact rfl) ?_ ?_); (focus (first | (simp only [tupAV]; congr 1; rw [Bool.eq_iff_iff]; simp only [betw, Bool.and_eq_true, Bool.or_eq_true, decide_eq_true_eq, Bool.false_eq_true, ne_eq, true_iff, false_iff, iff_true, iff_false, Bool.not_eq_true, decide_eq_false_iff_not, not_true_eq_false, beq_iff_eq, bne_iff_ne]; omega; done) | (rfl; done) | ((simp only [tupAV]; congr <;> omega); done) | (simp [tupAV, *]; done))); (focus (first | rfl | (simp [AV.allR, allRL, allRL_ix]; done))))
theorem sgn_pos (n : Int) : (0 ≤ sgn n ↔ 0 ≤ n) ∧ (sgn n ≤ 0 ↔ n ≤ 0) := by
  unfold sgn; split <;> first | omega | (split <;> omega)
theorem c73 {p a b c : Pt} (hp : okP p = true) (ha : okP a = true) (hb' : okP b = true) (hc : okP c = true) : CallsF Try.prog 73 [pt p, pt a, pt b, pt c] [] (.bool (inTri p a b c)) [] := by
  have e1 := sgn_pos (left a b p)
  have e2 := sgn_pos (left b c p)
  have e3 := sgn_pos (left c a p)
  refine callsF_cwx hm hf73 (by simp [cf73]) ?_
  simp only [cf73, argsAl]
  repeat' first
    | (refine hK _ _ _ (by first | exact fun h => Bool.noConfusion h | exact fun _ => rfl) ?_; clear hK K)
    | (refine CWx.r fun K hK => ?_; simp (maxSteps := 4000000) (disch := omega) only [dr0, dr1, dr2, dr3, dr4, if_true, if_false, Option.some.injEq, Nat.reduceEqDiff, Int.reduceToNat, Nat.reduceSub, Nat.reduceAdd, Nat.reduceMul, Nat.reduceLT, Nat.reduceLeDiff, reduceCtorEq, ↓reduceIte, catT, enc0, enc1, if_pos, if_neg])
    | refine CWx.go ?_
    | (apply RCx.view (fid := 33) (caps := []) rfl rfl; (focus ((simp only [evsA, evA_t, evA_c, Am.get, Nat.reduceEqDiff, ↓reduceIte, List.nil_append, List.cons_append, List.append_nil]; repeat' first | exact viewArgs_nil | apply viewArgs_cons | exact viewG_flat (flat_pts _ _) _ | exact viewG_flat (flat_ixV _ _) _ | exact viewG_flat (flat_sv _ _) _ | exact viewG_ixT rfl (by assumption) (by omega) | exact viewG_ptsL rfl (by first | omega | (simp; done) | (simp; omega)) | exact viewG_ix rfl (by first | omega | (simp; omega)) | exact viewG_flat rfl _; done))); (focus (refine c33 ha hb' hp <;> first | omega | assumption)); (focus rfl); simp (maxSteps := 4000000) (disch := omega) only [dr0, dr1, dr2, dr3, dr4, if_true, if_false, Option.some.injEq, Nat.reduceEqDiff, Int.reduceToNat, Nat.reduceSub, Nat.reduceAdd, Nat.reduceMul, Nat.reduceLT, Nat.reduceLeDiff, reduceCtorEq, ↓reduceIte, catT, enc0, enc1, if_pos, if_neg])
    | (apply RCx.view (fid := 33) (caps := []) rfl rfl; (focus ((simp only [evsA, evA_t, evA_c, Am.get, Nat.reduceEqDiff, ↓reduceIte, List.nil_append, List.cons_append, List.append_nil]; repeat' first | exact viewArgs_nil | apply viewArgs_cons | exact viewG_flat (flat_pts _ _) _ | exact viewG_flat (flat_ixV _ _) _ | exact viewG_flat (flat_sv _ _) _ | exact viewG_ixT rfl (by assumption) (by omega) | exact viewG_ptsL rfl (by first | omega | (simp; done) | (simp; omega)) | exact viewG_ix rfl (by first | omega | (simp; omega)) | exact viewG_flat rfl _; done))); (focus (refine c33 hb' hc hp <;> first | omega | assumption)); (focus rfl); simp (maxSteps := 4000000) (disch := omega) only [dr0, dr1, dr2, dr3, dr4, if_true, if_false, Option.some.injEq, Nat.reduceEqDiff, Int.reduceToNat, Nat.reduceSub, Nat.reduceAdd, Nat.reduceMul, Nat.reduceLT, Nat.reduceLeDiff, reduceCtorEq, ↓reduceIte, catT, enc0, enc1, if_pos, if_neg])
    | (apply RCx.view (fid := 33) (caps := []) rfl rfl; (focus ((simp only [evsA, evA_t, evA_c, Am.get, Nat.reduceEqDiff, ↓reduceIte, List.nil_append, List.cons_append, List.append_nil]; repeat' first | exact viewArgs_nil | apply viewArgs_cons | exact viewG_flat (flat_pts _ _) _ | exact viewG_flat (flat_ixV _ _) _ | exact viewG_flat (flat_sv _ _) _ | exact viewG_ixT rfl (by assumption) (by omega) | exact viewG_ptsL rfl (by first | omega | (simp; done) | (simp; omega)) | exact viewG_ix rfl (by first | omega | (simp; omega)) | exact viewG_flat rfl _; done))); (focus (refine c33 hc ha hp <;> first | omega | assumption)); (focus rfl); simp (maxSteps := 4000000) (disch := omega) only [dr0, dr1, dr2, dr3, dr4, if_true, if_false, Option.some.injEq, Nat.reduceEqDiff, Int.reduceToNat, Nat.reduceSub, Nat.reduceAdd, Nat.reduceMul, Nat.reduceLT, Nat.reduceLeDiff, reduceCtorEq, ↓reduceIte, catT, enc0, enc1, if_pos, if_neg])
    | (apply RCx.view (fid := 33) (caps := []) rfl rfl; (focus ((simp only [evsA, evA_t, evA_c, Am.get, Nat.reduceEqDiff, ↓reduceIte, List.nil_append, List.cons_append, List.append_nil]; repeat' first | exact viewArgs_nil | apply viewArgs_cons | exact viewG_flat (flat_pts _ _) _ | exact viewG_flat (flat_ixV _ _) _ | exact viewG_flat (flat_sv _ _) _ | exact viewG_ixT rfl (by assumption) (by omega) | exact viewG_ptsL rfl (by first | omega | (simp; done) | (simp; omega)) | exact viewG_ix rfl (by first | omega | (simp; omega)) | exact viewG_flat rfl _; done))); (focus (refine c33 ha hb' hc <;> first | omega | assumption)); (focus rfl); simp (maxSteps := 4000000) (disch := omega) only [dr0, dr1, dr2, dr3, dr4, if_true, if_false, Option.some.injEq, Nat.reduceEqDiff, Int.reduceToNat, Nat.reduceSub, Nat.reduceAdd, Nat.reduceMul, Nat.reduceLT, Nat.reduceLeDiff, reduceCtorEq, ↓reduceIte, catT, enc0, enc1, if_pos, if_neg])
    | (apply RCx.view (fid := 32) (caps := []) rfl rfl; (focus ((simp only [evsA, evA_t, evA_c, Am.get, Nat.reduceEqDiff, ↓reduceIte, List.nil_append, List.cons_append, List.append_nil]; repeat' first | exact viewArgs_nil | apply viewArgs_cons | exact viewG_flat (flat_pts _ _) _ | exact viewG_flat (flat_ixV _ _) _ | exact viewG_flat (flat_sv _ _) _ | exact viewG_ixT rfl (by assumption) (by omega) | exact viewG_ptsL rfl (by first | omega | (simp; done) | (simp; omega)) | exact viewG_ix rfl (by first | omega | (simp; omega)) | exact viewG_flat rfl _; done))); (focus (refine c32 _ <;> first | omega | assumption)); (focus rfl); simp (maxSteps := 4000000) (disch := omega) only [dr0, dr1, dr2, dr3, dr4, if_true, if_false, Option.some.injEq, Nat.reduceEqDiff, Int.reduceToNat, Nat.reduceSub, Nat.reduceAdd, Nat.reduceMul, Nat.reduceLT, Nat.reduceLeDiff, reduceCtorEq, ↓reduceIte, catT, enc0, enc1, if_pos, if_neg])
    | (refine gX_split (fun hb => ?_) (fun hb => ?_) <;> (try simp only [hb]) <;> (try simp only [bset0, reduceCtorEq] at hb) <;> simp (maxSteps := 4000000) (disch := omega) only [dr0, dr1, dr2, dr3, dr4, if_true, if_false, Option.some.injEq, Nat.reduceEqDiff, Int.reduceToNat, Nat.reduceSub, Nat.reduceAdd, Nat.reduceMul, Nat.reduceLT, Nat.reduceLeDiff, reduceCtorEq, ↓reduceIte, catT, enc0, enc1, if_pos, if_neg])
    | (refine CWx.br rfl (fun hb => ?_) (fun hb => ?_) <;> first | exact Bool.noConfusion hb | (first | (simp only [bset0, reduceCtorEq] at hb; done) | ((try simp only [bset0, reduceCtorEq] at hb); first | contradiction | skip)))
    | (refine CWx.e fun K hK => ?_; simp (maxSteps := 4000000) (disch := omega) only [dr0, dr1, dr2, dr3, dr4, if_true, if_false, Option.some.injEq, Nat.reduceEqDiff, Int.reduceToNat, Nat.reduceSub, Nat.reduceAdd, Nat.reduceMul, Nat.reduceLT, Nat.reduceLeDiff, reduceCtorEq, ↓reduceIte, catT, enc0, enc1, if_pos, if_neg])
    | refine CWx.seq ?_
    | refine CWx.skip ?_
    | refine CWx.exit ?_
    | (refine CWx.ret fun al hal => finK_ext hal (finK_pure (.inr rfl) (by simp only [resRV, Am.get, Nat.reduceEqDiff, ↓reduceIte]; exact rfl) ?_ ?_); (focus (first | (simp only [tupAV]; congr 1; rw [Bool.eq_iff_iff]; simp only [inTri, Bool.and_eq_true, Bool.or_eq_true, decide_eq_true_eq, Bool.false_eq_true, ne_eq, true_iff, false_iff, iff_true, iff_false, Bool.not_eq_true, decide_eq_false_iff_not, not_true_eq_false, beq_iff_eq, bne_iff_ne]; omega; done) | (rfl; done) | ((simp only [tupAV]; congr <;> omega); done) | (simp [tupAV, *]; done))); (focus (first | rfl | (simp [AV.allR, allRL, allRL_ix]; done))))
def inB (l : List Pt) (p : Pt) : Bool := (List.range l.length).any fun i => decide (P l i = p) || (List.range i).any fun j => betw p (P l i) (P l j) || (List.range j).any fun k => inTri p (P l i) (P l j) (P l k)
def N1 (l : List Pt) (p : Pt) (x y : Nat) : Prop := betw p (P l x) (P l y) = false ∧ ∀ z, z < y → inTri p (P l x) (P l y) (P l z) = false
def N0 (l : List Pt) (p : Pt) (x : Nat) : Prop := ¬ P l x = p ∧ ∀ y, y < x → N1 l p x y
theorem inB_iff (l : List Pt) (p : Pt) : inB l p = true ↔ ∃ i, i < l.length ∧ (P l i = p ∨ ∃ j, j < i ∧ (betw p (P l i) (P l j) = true ∨ ∃ k, k < j ∧ inTri p (P l i) (P l j) (P l k) = true)) := by
  simp only [inB, List.any_eq_true, List.mem_range, Bool.or_eq_true, decide_eq_true_eq]
theorem inB_f {l : List Pt} {p : Pt} (h : ∀ x, x < l.length → N0 l p x) : inB l p = false := by
  cases e : inB l p with
  | false => rfl
  | true =>
    obtain ⟨i, hi, h1 | ⟨j, hj, h1 | ⟨k, hk, h1⟩⟩⟩ := (inB_iff l p).1 e
    · exact absurd h1 (h i hi).1
    · rw [((h i hi).2 j hj).1] at h1; cases h1
    · rw [((h i hi).2 j hj).2 k hk] at h1; cases h1
theorem c30 (l : List Pt) (p : Pt) (hn : l.length < 4611686018427387904) (qa : ∀ k, k < l.length → okP (P l k) = true) (hp : okP p = true) : CallsF Try.prog 30 [pts l, pt p] [] (.bool (inB l p)) [] := by
  refine callsF_cwx hm hf30 (by simp [cf30]) ?_
  simp only [cf30, argsAl]
  repeat' first
    | (refine hK _ _ _ (by first | exact fun h => Bool.noConfusion h | exact fun _ => rfl) ?_; clear hK K)
    | (refine CWx.r fun K hK => ?_; simp (maxSteps := 4000000) (disch := omega) only [dr0, dr1, dr2, dr3, dr4, if_true, if_false, Option.some.injEq, Nat.reduceEqDiff, Int.reduceToNat, Nat.reduceSub, Nat.reduceAdd, Nat.reduceMul, Nat.reduceLT, Nat.reduceLeDiff, reduceCtorEq, ↓reduceIte, catT, enc0, enc1, if_pos, if_neg])
    | refine CWx.go ?_
    | (apply RCx.view (fid := 72) (caps := []) rfl rfl; (focus ((simp only [evsA, evA_t, evA_c, Am.get, Nat.reduceEqDiff, ↓reduceIte, List.nil_append, List.cons_append, List.append_nil]; repeat' first | exact viewArgs_nil | apply viewArgs_cons | exact viewG_flat (flat_pts _ _) _ | exact viewG_flat (flat_ixV _ _) _ | exact viewG_flat (flat_sv _ _) _ | exact viewG_ixT rfl (by assumption) (by omega) | exact viewG_ptsL rfl (by first | omega | (simp; done) | (simp; omega)) | exact viewG_ix rfl (by first | omega | (simp; omega)) | exact viewG_flat rfl _; done))); (focus (refine c72 hp (qa _ ?_) (qa _ ?_) <;> first | omega | assumption)); (focus rfl); simp (maxSteps := 4000000) (disch := omega) only [dr0, dr1, dr2, dr3, dr4, if_true, if_false, Option.some.injEq, Nat.reduceEqDiff, Int.reduceToNat, Nat.reduceSub, Nat.reduceAdd, Nat.reduceMul, Nat.reduceLT, Nat.reduceLeDiff, reduceCtorEq, ↓reduceIte, catT, enc0, enc1, if_pos, if_neg])
    | (apply RCx.view (fid := 73) (caps := []) rfl rfl; (focus ((simp only [evsA, evA_t, evA_c, Am.get, Nat.reduceEqDiff, ↓reduceIte, List.nil_append, List.cons_append, List.append_nil]; repeat' first | exact viewArgs_nil | apply viewArgs_cons | exact viewG_flat (flat_pts _ _) _ | exact viewG_flat (flat_ixV _ _) _ | exact viewG_flat (flat_sv _ _) _ | exact viewG_ixT rfl (by assumption) (by omega) | exact viewG_ptsL rfl (by first | omega | (simp; done) | (simp; omega)) | exact viewG_ix rfl (by first | omega | (simp; omega)) | exact viewG_flat rfl _; done))); (focus (refine c73 hp (qa _ ?_) (qa _ ?_) (qa _ ?_) <;> first | omega | assumption)); (focus rfl); simp (maxSteps := 4000000) (disch := omega) only [dr0, dr1, dr2, dr3, dr4, if_true, if_false, Option.some.injEq, Nat.reduceEqDiff, Int.reduceToNat, Nat.reduceSub, Nat.reduceAdd, Nat.reduceMul, Nat.reduceLT, Nat.reduceLeDiff, reduceCtorEq, ↓reduceIte, catT, enc0, enc1, if_pos, if_neg])
    | (refine gX_split (fun hb => ?_) (fun hb => ?_) <;> (try simp only [hb]) <;> (try simp only [bset0, reduceCtorEq] at hb) <;> simp (maxSteps := 4000000) (disch := omega) only [dr0, dr1, dr2, dr3, dr4, if_true, if_false, Option.some.injEq, Nat.reduceEqDiff, Int.reduceToNat, Nat.reduceSub, Nat.reduceAdd, Nat.reduceMul, Nat.reduceLT, Nat.reduceLeDiff, reduceCtorEq, ↓reduceIte, catT, enc0, enc1, if_pos, if_neg])
    | (refine CWx.br rfl (fun hb => ?_) (fun hb => ?_) <;> first | exact Bool.noConfusion hb | (first | (simp only [bset0, reduceCtorEq] at hb; done) | ((try simp only [bset0, reduceCtorEq] at hb); first | contradiction | skip)))
    | (refine CWx.e fun K hK => ?_; simp (maxSteps := 4000000) (disch := omega) only [dr0, dr1, dr2, dr3, dr4, if_true, if_false, Option.some.injEq, Nat.reduceEqDiff, Int.reduceToNat, Nat.reduceSub, Nat.reduceAdd, Nat.reduceMul, Nat.reduceLT, Nat.reduceLeDiff, reduceCtorEq, ↓reduceIte, catT, enc0, enc1, if_pos, if_neg])
    | (refine CWx.block (id := 0) ?_; refine CWx.loopK (ι := Nat) [0, 3] (fun i => l.length - i) (fun i => [(5, .int .i64 (i : Int))]) (fun i => [.row false 0 false 2 [pt p]]) (fun i => i ≤ l.length ∧ ∀ x, x < i → N0 l p x) (fun i => by simp only [keepA, Am.get, List.cons_append, List.nil_append, Nat.reduceEqDiff, ↓reduceIte]; exact rfl) (0) ?_ ?_ (fun i hi => ?_); (focus ((try dsimp only) <;> (first | trivial | omega | (refine ⟨?_, ?_⟩ <;> first | omega | trivial | simp_all) | simp_all); done)); (focus (refine Fgt.mk' 1 (by simp) ?_ ?_ ?_ <;> simp [-List.map_take, -List.map_map, AV.isY, ltL_append, ix_nil, keepB, Am.get, AV.lt, ltL, lt_pts, lt_pt, lt_ixV, ltL_ix, ltL_pt, Blk.lt, ltB]; done)); have Hi := hi; (skip))
    | (refine CWx.block (id := 2) ?_; refine CWx.loopK (ι := Nat) [0, 3, 5] (fun j => i - j) (fun j => [(6, .int .i64 (j : Int))]) (fun j => [.row false 0 false 2 [pt p]]) (fun j => j ≤ i ∧ ∀ y, y < j → N1 l p i y) (fun i => by simp only [keepA, Am.get, List.cons_append, List.nil_append, Nat.reduceEqDiff, ↓reduceIte]; exact rfl) (0) ?_ ?_ (fun j hi => ?_); (focus ((try dsimp only) <;> (first | trivial | omega | (refine ⟨?_, ?_⟩ <;> first | omega | trivial | simp_all) | simp_all); done)); (focus (refine Fgt.mk' 1 (by simp) ?_ ?_ ?_ <;> simp [-List.map_take, -List.map_map, AV.isY, ltL_append, ix_nil, keepB, Am.get, AV.lt, ltL, lt_pts, lt_pt, lt_ixV, ltL_ix, ltL_pt, Blk.lt, ltB]; done)); have Hj := hi; (skip))
    | (refine CWx.block (id := 4) ?_; refine CWx.loopK (ι := Nat) [0, 3, 5, 6] (fun k => j - k) (fun k => [(7, .int .i64 (k : Int))]) (fun k => [.row false 0 false 2 [pt p]]) (fun k => k ≤ j ∧ ∀ z, z < k → inTri p (P l i) (P l j) (P l z) = false) (fun i => by simp only [keepA, Am.get, List.cons_append, List.nil_append, Nat.reduceEqDiff, ↓reduceIte]; exact rfl) (0) ?_ ?_ (fun k hi => ?_); (focus ((try dsimp only) <;> (first | trivial | omega | (refine ⟨?_, ?_⟩ <;> first | omega | trivial | simp_all) | simp_all); done)); (focus (refine Fgt.mk' 1 (by simp) ?_ ?_ ?_ <;> simp [-List.map_take, -List.map_map, AV.isY, ltL_append, ix_nil, keepB, Am.get, AV.lt, ltL, lt_pts, lt_pt, lt_ixV, ltL_ix, ltL_pt, Blk.lt, ltB]; done)); have Hk := hi; (skip))
    | refine CWx.seq ?_
    | refine CWx.block (id := 1) ?_
    | refine CWx.block (id := 3) ?_
    | refine CWx.block (id := 5) ?_
    | refine CWx.skip ?_
    | (refine CWx.exit (id := 4) ?_; (have ek : k = j := by omega))
    | refine CWx.exit ?_
    | (refine CWx.ret fun al hal => finK_ext hal (finK_pure (.inr rfl) (by simp only [resRV, Am.get, Nat.reduceEqDiff, ↓reduceIte]; exact rfl) ?_ ?_); (focus (first | ((simp only [tupAV]; congr 1; symm; rw [inB_iff]; exact ⟨i, by omega, .inl (by assumption)⟩); done) | ((simp only [tupAV]; congr 1; symm; rw [inB_iff]; exact ⟨i, by omega, .inr ⟨j, by omega, .inl (by assumption)⟩⟩); done) | ((simp only [tupAV]; congr 1; symm; rw [inB_iff]; exact ⟨i, by omega, .inr ⟨j, by omega, .inr ⟨k, by omega, by assumption⟩⟩⟩); done) | ((rw [inB_f (fun x hx => hi.2 x (by omega))]; rfl); done) | (rfl; done) | ((simp only [tupAV]; congr <;> omega); done) | (simp [tupAV, *]; done))); (focus (first | rfl | (simp [AV.allR, allRL, allRL_ix]; done))))
    | (intro al hal; refine ⟨k + 1, ?_, ?_, Fgt.ofx hal ?_⟩; (focus (first | omega | (dsimp only; omega))); (focus (exact ⟨by omega, allUp hi.2 (by assumption)⟩; done)); (focus (refine Fgt.mk' 1 (by simp) ?_ ?_ ?_ <;> simp [-List.map_take, -List.map_map, AV.isY, ltL_append, ix_nil, keepB, Am.get, AV.lt, ltL, lt_pts, lt_pt, lt_ixV, ltL_ix, ltL_pt, Blk.lt, ltB]; done)))
    | (intro al hal; refine ⟨j + 1, ?_, ?_, Fgt.ofx hal ?_⟩; (focus (first | omega | (dsimp only; omega))); (focus (exact ⟨by omega, allUp Hj.2 ⟨by assumption, fun z hz => hi.2 z (by omega)⟩⟩; done)); (focus (refine Fgt.mk' 1 (by simp) ?_ ?_ ?_ <;> simp [-List.map_take, -List.map_map, AV.isY, ltL_append, ix_nil, keepB, Am.get, AV.lt, ltL, lt_pts, lt_pt, lt_ixV, ltL_ix, ltL_pt, Blk.lt, ltB]; done)))
    | (intro al hal; refine ⟨i + 1, ?_, ?_, Fgt.ofx hal ?_⟩; (focus (first | omega | (dsimp only; omega))); (focus (exact ⟨by omega, allUp Hi.2 ⟨by assumption, fun y hy => Hj.2 y (by omega)⟩⟩; done)); (focus (refine Fgt.mk' 1 (by simp) ?_ ?_ ?_ <;> simp [-List.map_take, -List.map_map, AV.isY, ltL_append, ix_nil, keepB, Am.get, AV.lt, ltL, lt_pts, lt_pt, lt_ixV, ltL_ix, ltL_pt, Blk.lt, ltB]; done)))
/-- The points that aren't this one. -/
def othI (l : List Pt) (i k : Nat) : List Pt := (l.take k).filter fun q => decide (q ≠ P l i)
theorem othI_zero (l : List Pt) (i : Nat) : othI l i 0 = [] := rfl
theorem othI_t (l : List Pt) (i k : Nat) (hk : k < l.length) (h : P l k ≠ P l i) : othI l i (k + 1) = othI l i k ++ [P l k] := by
  unfold othI; rw [take_succP l hk, List.filter_append]; simp [h]
theorem othI_f (l : List Pt) (i k : Nat) (hk : k < l.length) (h : P l k = P l i) : othI l i (k + 1) = othI l i k := by
  unfold othI; rw [take_succP l hk, List.filter_append]; simp [h]
theorem othI_len (l : List Pt) (i k : Nat) : (othI l i k).length ≤ l.length := by
  unfold othI; exact Nat.le_trans (List.length_filter_le _ _) (by rw [List.length_take]; omega)
/-- Is the point a vertex? -/
def vertexB (l : List Pt) (i : Nat) : Bool := decide (∀ k, k < i → P l k ≠ P l i) && !inB (othI l i l.length) (P l i)
theorem c89 (l : List Pt) (i : Nat) (hi0 : i < l.length) (hn : l.length < 100000) (oka : l.all okP = true) : CallsF Try.prog 89 [pts l, .int .i64 (i : Int)] [] (.bool (vertexB l i)) [] := by
  have qa := ok_P oka
  have hlen := othI_len l i
  have k30 := c30 (othI l i l.length) (P l i) (by have := hlen l.length; omega) (fun k hk => by
    have := P_mem hk
    exact List.all_eq_true.1 oka _ (List.mem_of_mem_take (List.mem_filter.1 this).1)) (qa i hi0)
  refine callsF_cwx hm hf89 (by simp [cf89]) ?_
  simp only [cf89, argsAl]
  repeat' first
    | (refine hK _ _ _ (by first | exact fun h => Bool.noConfusion h | exact fun _ => rfl) ?_; clear hK K)
    | (refine CWx.r fun K hK => ?_; simp (maxSteps := 4000000) (disch := omega) only [dr0, dr1, dr2, dr3, dr4, if_true, if_false, Option.some.injEq, Nat.reduceEqDiff, Int.reduceToNat, Nat.reduceSub, Nat.reduceAdd, Nat.reduceMul, Nat.reduceLT, Nat.reduceLeDiff, reduceCtorEq, ↓reduceIte, catT, enc0, enc1, if_pos, if_neg])
    | refine CWx.go ?_
    | (apply RCx.view (fid := 30) (caps := []) rfl rfl; (focus ((simp only [evsA, evA_t, evA_c, Am.get, Nat.reduceEqDiff, ↓reduceIte, List.nil_append, List.cons_append, List.append_nil]; repeat' first | exact viewArgs_nil | apply viewArgs_cons | exact viewG_flat (flat_pts _ _) _ | exact viewG_flat (flat_ixV _ _) _ | exact viewG_flat (flat_sv _ _) _ | exact viewG_ixT rfl (by assumption) (by omega) | exact viewG_ptsL rfl (by first | omega | (simp; done) | (simp; omega)) | exact viewG_ix rfl (by first | omega | (simp; omega)) | exact viewG_flat rfl _; done))); (focus (refine k30 <;> first | omega | assumption)); (focus rfl); simp (maxSteps := 4000000) (disch := omega) only [dr0, dr1, dr2, dr3, dr4, if_true, if_false, Option.some.injEq, Nat.reduceEqDiff, Int.reduceToNat, Nat.reduceSub, Nat.reduceAdd, Nat.reduceMul, Nat.reduceLT, Nat.reduceLeDiff, reduceCtorEq, ↓reduceIte, catT, enc0, enc1, if_pos, if_neg])
    | (refine gX_split (fun hb => ?_) (fun hb => ?_) <;> (try simp only [hb]) <;> (try simp only [bset0, reduceCtorEq] at hb) <;> simp (maxSteps := 4000000) (disch := omega) only [dr0, dr1, dr2, dr3, dr4, if_true, if_false, Option.some.injEq, Nat.reduceEqDiff, Int.reduceToNat, Nat.reduceSub, Nat.reduceAdd, Nat.reduceMul, Nat.reduceLT, Nat.reduceLeDiff, reduceCtorEq, ↓reduceIte, catT, enc0, enc1, if_pos, if_neg])
    | (refine CWx.br rfl (fun hb => ?_) (fun hb => ?_) <;> first | exact Bool.noConfusion hb | (first | (simp only [bset0, reduceCtorEq] at hb; done) | ((try simp only [bset0, reduceCtorEq] at hb); first | contradiction | skip)))
    | (refine CWx.e fun K hK => ?_; simp (maxSteps := 4000000) (disch := omega) only [dr0, dr1, dr2, dr3, dr4, if_true, if_false, Option.some.injEq, Nat.reduceEqDiff, Int.reduceToNat, Nat.reduceSub, Nat.reduceAdd, Nat.reduceMul, Nat.reduceLT, Nat.reduceLeDiff, reduceCtorEq, ↓reduceIte, catT, enc0, enc1, if_pos, if_neg])
    | (refine CWx.block (id := 0) ?_; refine CWx.loopK (ι := Nat × Nat) [0, 1] (fun q => l.length - q.1) (fun q => [(6, .int .i64 (q.1 : Int)), (5, .sl 0 q.2 0 (othI l i q.1).length)]) (fun q => [.row (othI l i q.1).isEmpty q.2 false 2 ((othI l i q.1).map pt)]) (fun q => q.1 ≤ l.length ∧ ∀ x, x < q.1 → x < i → P l x ≠ P l i) (fun i => by simp only [keepA, Am.get, List.cons_append, List.nil_append, Nat.reduceEqDiff, ↓reduceIte]; exact rfl) ((0, 0)) ?_ ?_ (fun q hi => ?_); (focus (exact ⟨Nat.zero_le _, fun x hx => by simp at hx⟩; done)); (focus (refine Fgt.mk' 1 (by simp) ?_ ?_ ?_ <;> simp [-List.map_take, -List.map_map, AV.isY, ltL_append, ix_nil, keepB, Am.get, AV.lt, ltL, lt_pts, lt_pt, lt_ixV, ltL_ix, ltL_pt, Blk.lt, ltB, othI_zero]; done)); have Hq := hi; ((have hlq := hlen q.1)))
    | refine CWx.seq ?_
    | refine CWx.block (id := 1) ?_
    | refine CWx.skip ?_
    | (refine CWx.exit (id := 0) ?_; (have eq : q.1 = l.length := by omega); simp only [eq])
    | refine CWx.exit ?_
    | (refine CWx.ret fun al hal => finK_ext hal (finK_pure (.inr rfl) (by simp only [resRV, Am.get, Nat.reduceEqDiff, ↓reduceIte]; exact rfl) ?_ ?_); (focus (first | ((simp only [tupAV, vertexB]; rw [decide_eq_false (fun h => h q.1 (by omega) (by assumption))]; rfl); done) | ((simp only [tupAV, vertexB]; rw [decide_eq_true (fun k hk => hi.2 k (by omega) hk)]; rfl); done) | (rfl; done) | ((simp only [tupAV]; congr <;> omega); done) | (simp [tupAV, *]; done))); (focus (first | rfl | (simp [AV.allR, allRL, allRL_ix]; done))))
    | (intro al hal; refine ⟨(q.1 + 1, q.2 + 1), ?_, ?_, Fgt.ofx hal ?_⟩; (focus (first | omega | (dsimp only; omega))); (focus (exact ⟨by dsimp only; omega, allUp hi.2 (fun _ => by assumption)⟩; done)); (focus (refine Fgt.mk' 1 (by simp) ?_ ?_ ?_ <;> simp [-List.map_take, -List.map_map, AV.isY, ltL_append, ix_nil, keepB, Am.get, AV.lt, ltL, lt_pts, lt_pt, lt_ixV, ltL_ix, ltL_pt, Blk.lt, ltB, othI_zero, othI_t l i q.1 (by omega) (by assumption)]; done)))
    | (intro al hal; refine ⟨(q.1 + 1, q.2), ?_, ?_, Fgt.ofx hal ?_⟩; (focus (first | omega | (dsimp only; omega))); (focus (exact ⟨by dsimp only; omega, allUp hi.2 (fun _ => by omega)⟩; done)); (focus (refine Fgt.mk' 1 (by simp) ?_ ?_ ?_ <;> simp [-List.map_take, -List.map_map, AV.isY, ltL_append, ix_nil, keepB, Am.get, AV.lt, ltL, lt_pts, lt_pt, lt_ixV, ltL_ix, ltL_pt, Blk.lt, ltB, othI_zero, othI_f l i q.1 (by omega) (by assumption)]; done)))
end Go.Hull
end
section
set_option linter.unusedVariables false
namespace Go.Hull

theorem left_rot (a b c : Pt) : left b c a = left a b c := by simp only [left, turn, sub]; grind
theorem inTri_rot (p a b c : Pt) : inTri p b c a = inTri p a b c := by
  rw [Bool.eq_iff_iff]
  have := left_rot a b c
  simp only [inTri, Bool.and_eq_true, Bool.or_eq_true, decide_eq_true_eq, ne_eq]; omega
theorem inTri_sw (p a b c : Pt) : inTri p b a c = inTri p a b c := by
  rw [Bool.eq_iff_iff]
  have e0 : left b a c = - left a b c := left_swap a b c
  have e1 : left b a p = - left a b p := left_swap a b p
  have e2 : left a c p = - left c a p := left_swap c a p
  have e3 : left c b p = - left b c p := left_swap b c p
  simp only [inTri, Bool.and_eq_true, Bool.or_eq_true, decide_eq_true_eq, ne_eq]; omega
theorem betw_sw (p a b : Pt) : betw p b a = betw p a b := by
  rw [Bool.eq_iff_iff]
  have e0 : left b a p = - left a b p := left_swap a b p
  have e1 : dot (sub b p) (sub a p) = dot (sub a p) (sub b p) := by simp only [dot, sub]; grind
  simp only [betw, Bool.and_eq_true, decide_eq_true_eq]; omega
theorem betw_same {p a : Pt} (h : betw p a a = true) : p = a := by
  simp only [betw, Bool.and_eq_true, decide_eq_true_eq] at h
  refine Classical.byContradiction fun hne => ?_
  have := dot_self_pos (u := sub a p) fun e => hne (sub_zero e).symm
  omega
theorem inTri_ne {p a b c : Pt} (h : inTri p a b c = true) : a ≠ b ∧ b ≠ c ∧ a ≠ c := by
  simp only [inTri, Bool.and_eq_true, decide_eq_true_eq, ne_eq] at h
  refine ⟨fun e => h.1 ?_, fun e => h.1 ?_, fun e => h.1 ?_⟩
  · rw [e, left_self1']
  · rw [e, left_self2]
  · rw [e, left_self1]
theorem mem_P {l : List Pt} {q : Pt} (h : q ∈ l) : ∃ i, i < l.length ∧ P l i = q := by
  obtain ⟨i, hi, e⟩ := List.getElem_of_mem h
  exact ⟨i, hi, by unfold P; rw [List.getD_eq_getElem?_getD, List.getElem?_eq_getElem hi]; exact e⟩
theorem inB_in (l : List Pt) (p : Pt) : inB l p = true ↔ InP (· ∈ l) p := by
  rw [inB_iff]
  constructor
  · rintro ⟨i, hi, h | ⟨j, hj, h | ⟨k, hk, h⟩⟩⟩
    · exact .inl (by rw [← h]; exact P_mem hi)
    · exact .inr (.inl ⟨_, _, P_mem hi, P_mem (by omega), h⟩)
    · exact .inr (.inr ⟨_, _, _, P_mem hi, P_mem (by omega), P_mem (by omega), h⟩)
  · have tri : ∀ i j k, i < l.length → j < i → k < j → inTri p (P l i) (P l j) (P l k) = true → ∃ i, i < l.length ∧ (P l i = p ∨ ∃ j, j < i ∧ (betw p (P l i) (P l j) = true ∨ ∃ k, k < j ∧ inTri p (P l i) (P l j) (P l k) = true)) := fun i j k hi hj hk h => ⟨i, hi, .inr ⟨j, hj, .inr ⟨k, hk, h⟩⟩⟩
    rintro (h | ⟨a, b, ha, hb, h⟩ | ⟨a, b, c, ha, hb, hc, h⟩)
    · obtain ⟨i, hi, e⟩ := mem_P h
      exact ⟨i, hi, .inl e⟩
    · obtain ⟨i, hi, rfl⟩ := mem_P ha
      obtain ⟨j, hj, rfl⟩ := mem_P hb
      rcases Nat.lt_trichotomy i j with hij | hij | hij
      · exact ⟨j, hj, .inr ⟨i, hij, .inl (by rw [betw_sw]; exact h)⟩⟩
      · subst hij; exact ⟨i, hi, .inl (betw_same h).symm⟩
      · exact ⟨i, hi, .inr ⟨j, hij, .inl h⟩⟩
    · obtain ⟨i, hi, rfl⟩ := mem_P ha
      obtain ⟨j, hj, rfl⟩ := mem_P hb
      obtain ⟨k, hk, rfl⟩ := mem_P hc
      obtain ⟨n1, n2, n3⟩ := inTri_ne h
      have e1 : i ≠ j := fun e => n1 (by rw [e])
      have e2 : j ≠ k := fun e => n2 (by rw [e])
      have e3 : i ≠ k := fun e => n3 (by rw [e])
      rcases Nat.lt_or_gt_of_ne e1 with h1 | h1 <;> rcases Nat.lt_or_gt_of_ne e2 with h2 | h2 <;> rcases Nat.lt_or_gt_of_ne e3 with h3 | h3
      · exact tri k j i hk h2 h1 (by rw [inTri_sw, inTri_rot]; exact h)
      · omega
      · exact tri j k i hj h2 h3 (by rw [inTri_rot]; exact h)
      · exact tri j i k hj h1 h3 (by rw [inTri_sw]; exact h)
      · exact tri k i j hk h3 h1 (by rw [inTri_rot, inTri_rot]; exact h)
      · exact tri i k j hi h3 h2 (by rw [inTri_sw, inTri_rot, inTri_rot]; exact h)
      · omega
      · exact tri i j k hi h1 h2 h
theorem othI_mem (l : List Pt) (i : Nat) (q : Pt) : q ∈ othI l i l.length ↔ q ∈ l ∧ q ≠ P l i := by
  unfold othI
  rw [List.take_of_length_le (Nat.le_refl _), List.mem_filter]; simp
theorem nd_of_map {α β : Type} {f : α → β} {v : List α} (h : (v.map f).Nodup) : v.Nodup := by
  rw [List.nodup_iff_pairwise_ne, List.pairwise_map] at h
  rw [List.nodup_iff_pairwise_ne]
  exact h.imp fun hab e => hab (by rw [e])
theorem mem_getD {v : List Nat} {x : Nat} (h : x ∈ v) : ∃ m, m < v.length ∧ v.getD m 0 = x := by
  obtain ⟨m, hm, e⟩ := List.getElem_of_mem h
  exact ⟨m, hm, by rw [List.getD_eq_getElem?_getD, List.getElem?_eq_getElem hm]; exact e⟩
theorem getD_mem {v : List Nat} {m : Nat} (h : m < v.length) : v.getD m 0 ∈ v := by
  rw [List.getD_eq_getElem?_getD, List.getElem?_eq_getElem h]; simp
theorem vertexB_iff {l : List Pt} {x : Nat} (hx : x < l.length) : vertexB l x = true ↔ x ∈ hullI l := by
  have V := hullV l (by omega)
  simp only [vertexB, Bool.and_eq_true, decide_eq_true_eq, Bool.not_eq_true']
  constructor
  · rintro ⟨h1, h2⟩
    refine Classical.byContradiction fun hno => ?_
    have nov : ∀ m, m < (hullI l).length → P l x ≠ P l ((hullI l).getD m 0) := fun m hm e => by
      have hmem := getD_mem hm
      rcases Nat.lt_trichotomy x ((hullI l).getD m 0) with h | h | h
      · exact V.fst _ hmem x h e
      · exact hno (by rw [h]; exact hmem)
      · exact h1 _ h e.symm
    have hin := in_of_inH V ((in_iff V (P l x)).1 (.inl (P_mem hx)))
    have := (inB_in (othI l x l.length) (P l x)).2 (hin.mono fun q hq => by
      rw [othI_mem]
      refine ⟨isV_mem V hq, ?_⟩
      obtain ⟨m, hm, rfl⟩ := hq
      rw [vx_lt hm]
      exact (nov m hm).symm)
    rw [this] at h2; cases h2
  · intro hmem
    refine ⟨fun k hk => V.fst x hmem k hk, ?_⟩
    obtain ⟨m, hm, e⟩ := mem_getD hmem
    cases hb : inB (othI l x l.length) (P l x) with
    | false => rfl
    | true =>
      have ev : vx l (hullI l) m = P l x := by rw [vx_lt hm, e]
      have := vertex_out V hm
      rw [ev] at this
      exact absurd (((inB_in _ _).1 hb).mono fun q hq => (othI_mem l x q).1 hq) this
theorem hull_nodup (l : List Pt) : (hullI l).Nodup := by
  by_cases hl : 0 < l.length
  · exact nd_of_map (hullV l hl).nd
  · obtain rfl : l = [] := List.eq_nil_of_length_eq_zero (by omega)
    rw [hullI_nil]; exact List.nodup_nil
end Go.Hull
end
section
set_option linter.unusedSimpArgs false
set_option linter.unusedVariables false
set_option maxHeartbeats 8000000
set_option maxRecDepth 100000
namespace Go.Hull
open Go Go.Am Go.Proofs

theorem ixgS (v : List Nat) (j n k : Nat) (h : k < v.length) : (ix (v.set j n))[k]? = some (.int .i64 (((v.set j n).getD k 0 : Nat) : Int)) := ix_get _ (by simpa using h)
/-- One exchange. -/
def swp (j : Nat) (xs : List Nat) : List Nat := (xs.set j (xs.getD (j - 1) 0)).set (j - 1) (xs.getD j 0)
theorem inner_t (lt : Nat → Nat → Bool) {j : Nat} {xs : List Nat} (hj : 0 < j) (h : lt (xs.getD j 0) (xs.getD (j - 1) 0) = true) : inner lt j xs = inner lt (j - 1) (swp j xs) := by
  cases j with
  | zero => omega
  | succ j => simp only [inner, swp, Nat.add_sub_cancel] at h ⊢; rw [if_pos h]
theorem inner_f (lt : Nat → Nat → Bool) {j : Nat} {xs : List Nat} (h : j = 0 ∨ lt (xs.getD j 0) (xs.getD (j - 1) 0) = false) : inner lt j xs = xs := by
  cases j with
  | zero => rfl
  | succ j =>
    rcases h with h | h
    · omega
    · simp only [inner, Nat.add_sub_cancel] at h ⊢; rw [if_neg (by rw [h]; decide)]
theorem swp_length (j : Nat) (xs : List Nat) : (swp j xs).length = xs.length := by simp [swp]
end Go.Hull
end
section
set_option linter.unusedSimpArgs false
set_option linter.unusedVariables false
set_option maxHeartbeats 8000000
set_option maxRecDepth 100000
namespace Go.Hull
open Go Go.Am Go.Proofs

theorem take_succN (v : List Nat) {i : Nat} (h : i < v.length) : v.take (i + 1) = v.take i ++ [v.getD i 0] := by
  rw [List.take_add_one, List.getElem?_eq_getElem h]
  simp only [Option.toList_some, List.getD_eq_getElem?_getD, List.getElem?_eq_getElem h, Option.getD_some]
end Go.Hull
end
section
set_option linter.unusedSimpArgs false
set_option linter.unusedVariables false
set_option maxHeartbeats 8000000
set_option maxRecDepth 100000
namespace Go.Hull
open Go Go.Am Go.Proofs

theorem nrm_small {p q : Pt} (h : smallV (sub q p)) : ∀ d ∈ nrm p q, smallV d := by
  intro d hd
  simp only [smallV] at h
  simp only [nrm, List.mem_cons, List.not_mem_nil, or_false] at hd
  rcases hd with rfl | rfl <;> (simp only [smallV]; omega)
end Go.Hull
end
section
set_option linter.unusedSimpArgs false
set_option linter.unusedVariables false
set_option maxHeartbeats 4000000
set_option maxRecDepth 100000
namespace Go.Hull
open Go Go.Am Go.Proofs

def few (l : List Pt) : Bool := decide (l.length ≤ 8) || (decide (64 < l.length) && decide (l.length < 128))
theorem few_chk {l : List Pt} (h : few l = true) : l.length < 128 ∧ (chk l = 0 → l.length ≤ 8) := by
  simp only [few, Bool.or_eq_true, Bool.and_eq_true, decide_eq_true_eq] at h
  refine ⟨by omega, fun hc => ?_⟩
  unfold chk at hc
  split at hc
  · cases hc
  · omega
/-- A list of any length. -/
def fewQ (l : List Pt) : Prop := ∃ b : Bool, CallsF Try.prog 11 [pts l] [] (.bool b) [] ∧ (b = true → few l = true)
theorem c11' (l : List Pt) : fewQ l := by
  refine ⟨few l, ?_, id⟩
  unfold few
  refine callsF_cwx hm hf11 (by simp [cf11]) ?_
  simp only [cf11, argsAl]
  repeat' first
    | (refine hK _ _ _ (by first | exact fun h => Bool.noConfusion h | exact fun _ => rfl) ?_; clear hK K)
    | (refine CWx.r fun K hK => ?_; simp (maxSteps := 4000000) (disch := omega) only [dr0, dr1, dr2, dr3, dr4, if_true, if_false, Option.some.injEq, Nat.reduceEqDiff, Int.reduceToNat, Nat.reduceSub, Nat.reduceAdd, Nat.reduceMul, Nat.reduceLT, Nat.reduceLeDiff, reduceCtorEq, ↓reduceIte, catT, enc0, enc1, if_pos, if_neg])
    | refine CWx.go ?_
    | (refine gX_split (fun hb => ?_) (fun hb => ?_) <;> (try simp only [hb]) <;> (try simp only [bset0, reduceCtorEq] at hb) <;> simp (maxSteps := 4000000) (disch := omega) only [dr0, dr1, dr2, dr3, dr4, if_true, if_false, Option.some.injEq, Nat.reduceEqDiff, Int.reduceToNat, Nat.reduceSub, Nat.reduceAdd, Nat.reduceMul, Nat.reduceLT, Nat.reduceLeDiff, reduceCtorEq, ↓reduceIte, catT, enc0, enc1, if_pos, if_neg])
    | (refine CWx.br rfl (fun hb => ?_) (fun hb => ?_) <;> first | exact Bool.noConfusion hb | (first | (simp only [bset0, reduceCtorEq] at hb; done) | ((try simp only [bset0, reduceCtorEq] at hb); first | contradiction | skip)))
    | (refine CWx.e fun K hK => ?_; simp (maxSteps := 4000000) (disch := omega) only [dr0, dr1, dr2, dr3, dr4, if_true, if_false, Option.some.injEq, Nat.reduceEqDiff, Int.reduceToNat, Nat.reduceSub, Nat.reduceAdd, Nat.reduceMul, Nat.reduceLT, Nat.reduceLeDiff, reduceCtorEq, ↓reduceIte, catT, enc0, enc1, if_pos, if_neg])
    | refine CWx.seq ?_
    | refine CWx.skip ?_
    | refine CWx.exit ?_
    | (refine CWx.ret fun al hal => finK_ext hal (finK_pure (.inr rfl) (by simp only [resRV, Am.get, Nat.reduceEqDiff, ↓reduceIte]; exact rfl) ?_ ?_); (focus (first | ((simp only [tupAV]; congr 1; rw [Bool.eq_iff_iff]; simp only [Bool.or_eq_true, Bool.and_eq_true, decide_eq_true_eq, Bool.false_eq_true, true_iff, false_iff]; omega); done) | (rfl; done) | ((simp only [tupAV]; congr <;> omega); done) | (simp [tupAV, *]; done))); (focus (first | rfl | (simp [AV.allR, allRL, allRL_ix]; done))))
end Go.Hull
end
section
set_option linter.unusedSimpArgs false
set_option linter.unusedVariables false
set_option maxHeartbeats 8000000
set_option maxRecDepth 100000
namespace Go.Hull
open Go Go.Am Go.Proofs

/-- The points that are the greatest in a direction. -/
def tpI (l : List Pt) (d : Pt) (i : Nat) : List Nat := (List.range i).filter fun k => decide (dot (P l k) d = topN l d l.length)
theorem tpI_zero (l : List Pt) (d : Pt) : tpI l d 0 = [] := rfl
theorem tpI_t (l : List Pt) (d : Pt) (i : Nat) (h : dot (P l i) d = topN l d l.length) : tpI l d (i + 1) = tpI l d i ++ [i] := by
  unfold tpI; rw [List.range_succ, List.filter_append]; simp [h]
theorem tpI_f (l : List Pt) (d : Pt) (i : Nat) (h : ¬ dot (P l i) d = topN l d l.length) : tpI l d (i + 1) = tpI l d i := by
  unfold tpI; rw [List.range_succ, List.filter_append]; simp [h]
theorem tpI_len (l : List Pt) (d : Pt) (i : Nat) : (tpI l d i).length ≤ i := by
  unfold tpI; exact Nat.le_trans (List.length_filter_le _ _) (by simp)
theorem c62 (l : List Pt) (d : Pt) (hl : 0 < l.length) (hn : l.length < 100000) (sa : ∀ p ∈ l, smallV p) (sd : smallV d) : CallsF Try.prog 62 [pts l, pt d] [] (.sl 0 0 0 (tpI l d l.length).length) [.row (tpI l d l.length).isEmpty 0 false 1 (ix (tpI l d l.length))] := by
  have hlen := tpI_len l d
  have qs : ∀ k, k < l.length → smallV (P l k) := fun k hk => sa _ (P_mem hk)
  refine callsF_cwx hm hf62 (by simp [cf62]) ?_
  simp only [cf62, argsAl]
  repeat' first
    | (refine hK _ _ _ (by first | exact fun h => Bool.noConfusion h | exact fun _ => rfl) ?_; clear hK K)
    | (refine CWx.r fun K hK => ?_; simp (maxSteps := 4000000) (disch := omega) only [dr0, dr1, dr2, dr3, dr4, if_true, if_false, Option.some.injEq, Nat.reduceEqDiff, Int.reduceToNat, Nat.reduceSub, Nat.reduceAdd, Nat.reduceMul, Nat.reduceLT, Nat.reduceLeDiff, reduceCtorEq, ↓reduceIte, catT, enc0, enc1, if_pos, if_neg])
    | refine CWx.go ?_
    | (apply RCx.view (fid := 70) (caps := []) rfl rfl; (focus ((simp only [evsA, evA_t, evA_c, Am.get, Nat.reduceEqDiff, ↓reduceIte, List.nil_append, List.cons_append, List.append_nil]; repeat' first | exact viewArgs_nil | apply viewArgs_cons | exact viewG_flat (flat_pts _ _) _ | exact viewG_flat (flat_ixV _ _) _ | exact viewG_flat (flat_sv _ _) _ | exact viewG_ixT rfl (by assumption) (by omega) | exact viewG_ptsL rfl (by first | omega | (simp; done) | (simp; omega)) | exact viewG_ix rfl (by first | omega | (simp; omega)) | exact viewG_flat rfl _; done))); (focus (refine c70 l d hl ?_ sa sd <;> first | omega | assumption)); (focus rfl); simp (maxSteps := 4000000) (disch := omega) only [dr0, dr1, dr2, dr3, dr4, if_true, if_false, Option.some.injEq, Nat.reduceEqDiff, Int.reduceToNat, Nat.reduceSub, Nat.reduceAdd, Nat.reduceMul, Nat.reduceLT, Nat.reduceLeDiff, reduceCtorEq, ↓reduceIte, catT, enc0, enc1, if_pos, if_neg])
    | (apply RCx.view (fid := 26) (caps := []) rfl rfl; (focus ((simp only [evsA, evA_t, evA_c, Am.get, Nat.reduceEqDiff, ↓reduceIte, List.nil_append, List.cons_append, List.append_nil]; repeat' first | exact viewArgs_nil | apply viewArgs_cons | exact viewG_flat (flat_pts _ _) _ | exact viewG_flat (flat_ixV _ _) _ | exact viewG_flat (flat_sv _ _) _ | exact viewG_ixT rfl (by assumption) (by omega) | exact viewG_ptsL rfl (by first | omega | (simp; done) | (simp; omega)) | exact viewG_ix rfl (by first | omega | (simp; omega)) | exact viewG_flat rfl _; done))); (focus (refine c26 (qs _ ?_) sd <;> first | omega | assumption)); (focus rfl); simp (maxSteps := 4000000) (disch := omega) only [dr0, dr1, dr2, dr3, dr4, if_true, if_false, Option.some.injEq, Nat.reduceEqDiff, Int.reduceToNat, Nat.reduceSub, Nat.reduceAdd, Nat.reduceMul, Nat.reduceLT, Nat.reduceLeDiff, reduceCtorEq, ↓reduceIte, catT, enc0, enc1, if_pos, if_neg])
    | (refine gX_split (fun hb => ?_) (fun hb => ?_) <;> (try simp only [hb]) <;> (try simp only [bset0, reduceCtorEq] at hb) <;> simp (maxSteps := 4000000) (disch := omega) only [dr0, dr1, dr2, dr3, dr4, if_true, if_false, Option.some.injEq, Nat.reduceEqDiff, Int.reduceToNat, Nat.reduceSub, Nat.reduceAdd, Nat.reduceMul, Nat.reduceLT, Nat.reduceLeDiff, reduceCtorEq, ↓reduceIte, catT, enc0, enc1, if_pos, if_neg])
    | (refine CWx.br rfl (fun hb => ?_) (fun hb => ?_) <;> first | exact Bool.noConfusion hb | (first | (simp only [bset0, reduceCtorEq] at hb; done) | ((try simp only [bset0, reduceCtorEq] at hb); first | contradiction | skip)))
    | (refine CWx.e fun K hK => ?_; simp (maxSteps := 4000000) (disch := omega) only [dr0, dr1, dr2, dr3, dr4, if_true, if_false, Option.some.injEq, Nat.reduceEqDiff, Int.reduceToNat, Nat.reduceSub, Nat.reduceAdd, Nat.reduceMul, Nat.reduceLT, Nat.reduceLeDiff, reduceCtorEq, ↓reduceIte, catT, enc0, enc1, if_pos, if_neg])
    | (refine CWx.block (id := 0) ?_; refine CWx.loopK (ι := Nat × Nat) [0, 3, 5] (fun q => l.length - q.1) (fun q => [(7, .int .i64 (q.1 : Int)), (6, .sl 2 q.2 0 (tpI l d q.1).length)]) (fun q => [.row false 0 false 2 [pt d], .row true 0 false 1 [], .row (tpI l d q.1).isEmpty q.2 false 1 (ix (tpI l d q.1))]) (fun q => q.1 ≤ l.length) (fun i => by simp only [keepA, Am.get, List.cons_append, List.nil_append, Nat.reduceEqDiff, ↓reduceIte]; exact rfl) ((0, 0)) ?_ ?_ (fun q hi => ?_); (focus ((try dsimp only) <;> (first | trivial | omega | (refine ⟨?_, ?_⟩ <;> first | omega | trivial | simp_all) | simp_all); done)); (focus (refine Fgt.mk' 3 (by simp) ?_ ?_ ?_ <;> simp [-List.map_take, -List.map_map, AV.isY, ltL_append, ix_nil, keepB, Am.get, AV.lt, ltL, lt_pts, lt_pt, lt_ixV, ltL_ix, ltL_pt, Blk.lt, ltB, tpI_zero]; done)); have Hq := hi; ((have hq := hlen q.1)))
    | refine CWx.seq ?_
    | refine CWx.block (id := 1) ?_
    | refine CWx.skip ?_
    | (refine CWx.exit (id := 0) ?_; (have eq : q.1 = l.length := by omega); simp only [eq])
    | refine CWx.exit ?_
    | (refine CWx.ret fun al hal => finK_ext hal (finK_pure (.inr rfl) (by simp only [resRV, Am.get, Nat.reduceEqDiff, ↓reduceIte]; exact rfl) ?_ ?_); (focus (first | (rfl; done) | ((simp only [tupAV]; congr <;> omega); done) | (simp [tupAV, *]; done))); (focus (first | rfl | (simp [AV.allR, allRL, allRL_ix]; done))))
    | (intro al hal; refine ⟨(q.1 + 1, q.2 + 1), ?_, ?_, Fgt.ofx hal ?_⟩; (focus (first | omega | (dsimp only; omega))); (focus ((try dsimp only) <;> (first | trivial | omega | (refine ⟨?_, ?_⟩ <;> first | omega | trivial | simp_all) | simp_all); done)); (focus (refine Fgt.mk' 3 (by simp) ?_ ?_ ?_ <;> simp [-List.map_take, -List.map_map, AV.isY, ltL_append, ix_nil, keepB, Am.get, AV.lt, ltL, lt_pts, lt_pt, lt_ixV, ltL_ix, ltL_pt, Blk.lt, ltB, tpI_zero, tpI_t l d q.1 (by assumption)]; done)))
    | (intro al hal; refine ⟨(q.1 + 1, q.2), ?_, ?_, Fgt.ofx hal ?_⟩; (focus (first | omega | (dsimp only; omega))); (focus ((try dsimp only) <;> (first | trivial | omega | (refine ⟨?_, ?_⟩ <;> first | omega | trivial | simp_all) | simp_all); done)); (focus (refine Fgt.mk' 3 (by simp) ?_ ?_ ?_ <;> simp [-List.map_take, -List.map_map, AV.isY, ltL_append, ix_nil, keepB, Am.get, AV.lt, ltL, lt_pts, lt_pt, lt_ixV, ltL_ix, ltL_pt, Blk.lt, ltB, tpI_zero, tpI_f l d q.1 (by assumption)]; done)))
    | (refine CWx.ret fun al hal => finK_ext hal (finK_new (b := 2) (.inr rfl) (by simp only [resRV, Am.get, Nat.reduceEqDiff, ↓reduceIte]; exact rfl) rfl (by first | exact allRL_ix _ _ _ | exact allRL_pts _ _ _ | rfl) ?_ ?_) <;> (simp [tupAV, AV.allR, allRL, sigP, AV.mapR, mapRL, sigF]; done))
end Go.Hull
end
section
set_option linter.unusedSimpArgs false
set_option linter.unusedVariables false
set_option maxHeartbeats 8000000
set_option maxRecDepth 100000
namespace Go.Hull
open Go Go.Am Go.Proofs

theorem mem_take_f {v : List Nat} {i x : Nat} (h : ∀ j, j < i → v.getD j 0 ≠ x) (hi : v.length ≤ i) : ¬ x ∈ v := fun hx => by
  obtain ⟨m, hm, e⟩ := mem_getD hx
  exact h m (by omega) e
theorem c111 (v : List Nat) (x : Nat) (hn : v.length < 4611686018427387904) : CallsF Try.prog 111 [ixV v, .int .i64 (x : Int)] [] (.bool (decide (x ∈ v))) [] := by
  refine callsF_cwx hm hf111 (by simp [cf111]) ?_
  simp only [cf111, argsAl]
  repeat' first
    | (refine hK _ _ _ (by first | exact fun h => Bool.noConfusion h | exact fun _ => rfl) ?_; clear hK K)
    | (refine CWx.r fun K hK => ?_; simp (maxSteps := 4000000) (disch := omega) only [dr0, dr1, dr2, dr3, dr4, if_true, if_false, Option.some.injEq, Nat.reduceEqDiff, Int.reduceToNat, Nat.reduceSub, Nat.reduceAdd, Nat.reduceMul, Nat.reduceLT, Nat.reduceLeDiff, reduceCtorEq, ↓reduceIte, catT, enc0, enc1, if_pos, if_neg])
    | refine CWx.go ?_
    | (refine gX_split (fun hb => ?_) (fun hb => ?_) <;> (try simp only [hb]) <;> (try simp only [bset0, reduceCtorEq] at hb) <;> first | omega | simp (maxSteps := 4000000) (disch := omega) only [dr0, dr1, dr2, dr3, dr4, if_true, if_false, Option.some.injEq, Nat.reduceEqDiff, Int.reduceToNat, Nat.reduceSub, Nat.reduceAdd, Nat.reduceMul, Nat.reduceLT, Nat.reduceLeDiff, reduceCtorEq, ↓reduceIte, catT, enc0, enc1, if_pos, if_neg])
    | (refine CWx.br rfl (fun hb => ?_) (fun hb => ?_) <;> first | exact Bool.noConfusion hb | (first | (simp only [bset0, reduceCtorEq] at hb; done) | ((try simp only [bset0, reduceCtorEq] at hb); first | omega | skip)))
    | (refine CWx.e fun K hK => ?_; simp (maxSteps := 4000000) (disch := omega) only [dr0, dr1, dr2, dr3, dr4, if_true, if_false, Option.some.injEq, Nat.reduceEqDiff, Int.reduceToNat, Nat.reduceSub, Nat.reduceAdd, Nat.reduceMul, Nat.reduceLT, Nat.reduceLeDiff, reduceCtorEq, ↓reduceIte, catT, enc0, enc1, if_pos, if_neg])
    | (refine CWx.block (id := 0) ?_; refine CWx.loopK (ι := Nat) [0, 1] (fun i => v.length - i) (fun i => [(5, .int .i64 (i : Int))]) (fun i => []) (fun i => i ≤ v.length ∧ ∀ j, j < i → v.getD j 0 ≠ x) (fun i => by simp only [keepA, Am.get, List.cons_append, List.nil_append, Nat.reduceEqDiff, ↓reduceIte]; exact rfl) (0) ?_ ?_ (fun i hi => ?_); (focus ((try dsimp only) <;> (first | trivial | omega | (refine ⟨?_, ?_⟩ <;> first | omega | trivial | simp_all) | simp_all); done)); (focus (refine Fgt.mk' 0 (by simp) ?_ ?_ ?_ <;> simp [-List.map_take, -List.map_map, AV.isY, ltL_append, ix_nil, keepB, Am.get, AV.lt, ltL, lt_pts, lt_pt, lt_ixV, ltL_ix, ltL_pt, Blk.lt, ltB]; done)); have Hi := hi; (skip))
    | refine CWx.seq ?_
    | refine CWx.block (id := 1) ?_
    | refine CWx.skip ?_
    | refine CWx.exit ?_
    | (refine CWx.ret fun al hal => finK_ext hal (finK_pure (.inr rfl) (by simp only [resRV, Am.get, Nat.reduceEqDiff, ↓reduceIte]; exact rfl) ?_ ?_); (focus (first | ((simp only [tupAV]; rw [decide_eq_true (show x ∈ v by rw [show x = v.getD i 0 by omega]; exact getD_mem (by omega))]); done) | ((simp only [tupAV]; rw [decide_eq_false (mem_take_f hi.2 (by omega))]); done) | (rfl; done) | ((simp only [tupAV]; congr <;> omega); done) | (simp [tupAV, *]; done))); (focus (first | rfl | (simp [AV.allR, allRL, allRL_ix]; done))))
    | (intro al hal; refine ⟨i + 1, ?_, ?_, Fgt.ofx hal ?_⟩; (focus (first | omega | (dsimp only; omega))); (focus (exact ⟨by omega, allUp hi.2 (by omega)⟩; done)); (focus (refine Fgt.mk' 0 (by simp) ?_ ?_ ?_ <;> simp [-List.map_take, -List.map_map, AV.isY, ltL_append, ix_nil, keepB, Am.get, AV.lt, ltL, lt_pts, lt_pt, lt_ixV, ltL_ix, ltL_pt, Blk.lt, ltB]; done)))
/-- i and j lie on both sides of the way from b to a. -/
def fcB (l : List Pt) (i j a b : Nat) : Bool := decide (P l a ≠ P l b ∧ ((i ∈ tpI l (P (nrm (P l a) (P l b)) 0) l.length ∧ j ∈ tpI l (P (nrm (P l a) (P l b)) 1) l.length) ∨ (i ∈ tpI l (P (nrm (P l a) (P l b)) 1) l.length ∧ j ∈ tpI l (P (nrm (P l a) (P l b)) 0) l.length)))
def facB (l : List Pt) (i j : Nat) : Bool := decide (∃ a, a < l.length ∧ ∃ b, b < a ∧ fcB l i j a b = true)
theorem facB_t {l : List Pt} {i j a b : Nat} (ha : a < l.length) (hb : b < a) (h : fcB l i j a b = true) : facB l i j = true := decide_eq_true ⟨a, ha, b, hb, h⟩
theorem facB_f {l : List Pt} {i j : Nat} (h : ∀ a, a < l.length → ∀ b, b < a → fcB l i j a b = false) : facB l i j = false := decide_eq_false fun ⟨a, ha, b, hb, e⟩ => by rw [h a ha b hb] at e; cases e
theorem nrm_sm {p q : Pt} (hp : okP p = true) (hq : okP q = true) (k : Nat) (hk : k < 2) : smallV (P (nrm p q) k) := nrm_small (sub_small hq hp) _ (P_mem (by rw [nrm_length]; exact hk))
theorem c96 (l : List Pt) (i j : Nat) (hl : 0 < l.length) (hn : l.length < 100000) (oka : l.all okP = true) : CallsF Try.prog 96 [pts l, .int .i64 (i : Int), .int .i64 (j : Int)] [] (.bool (facB l i j)) [] := by
  have qa := ok_P oka
  have sa : ∀ p ∈ l, smallV p := fun p hp => ok_small (List.all_eq_true.1 oka p hp)
  have tl := fun d => tpI_len l d l.length
  refine callsF_cwx hm hf96 (by simp [cf96]) ?_
  simp only [cf96, argsAl]
  repeat' first
    | (refine hK _ _ _ (by first | exact fun h => Bool.noConfusion h | exact fun _ => rfl) ?_; clear hK K)
    | (refine CWx.r fun K hK => ?_; simp (maxSteps := 4000000) (disch := omega) only [dr0, dr1, dr2, dr3, dr4, if_true, if_false, Option.some.injEq, Nat.reduceEqDiff, Int.reduceToNat, Nat.reduceSub, Nat.reduceAdd, Nat.reduceMul, Nat.reduceLT, Nat.reduceLeDiff, reduceCtorEq, ↓reduceIte, catT, enc0, enc1, if_pos, if_neg, AV.ren, ren_row_ix, ren_row_pt, frW])
    | refine CWx.go ?_
    | (refine RCx.plainRs (fid := 98) (caps := []) (args := [pt (P l a), pt (P l b)]) rfl rfl (by simp only [ltL, lt_pt, Bool.and_self]) (c98 (qa a (by omega)) (qa b (by omega))) rfl ?_; simp (maxSteps := 4000000) (disch := omega) only [dr0, dr1, dr2, dr3, dr4, if_true, if_false, Option.some.injEq, Nat.reduceEqDiff, Int.reduceToNat, Nat.reduceSub, Nat.reduceAdd, Nat.reduceMul, Nat.reduceLT, Nat.reduceLeDiff, reduceCtorEq, ↓reduceIte, catT, enc0, enc1, if_pos, if_neg, AV.ren, ren_row_ix, ren_row_pt, frW])
    | (refine RCx.viewR (fid := 62) (caps := []) rfl rfl (viewArgs2 (viewG_flat (flat_pts l 2) _) (viewG_flat rfl _)) (c62 l (P (nrm (P l a) (P l b)) 0) hl hn sa (nrm_sm (qa a (by omega)) (qa b (by omega)) 0 (by omega))) (by simp only [AV.clean, clean_ix, Bool.and_self]) ?_; simp (maxSteps := 4000000) (disch := omega) only [dr0, dr1, dr2, dr3, dr4, if_true, if_false, Option.some.injEq, Nat.reduceEqDiff, Int.reduceToNat, Nat.reduceSub, Nat.reduceAdd, Nat.reduceMul, Nat.reduceLT, Nat.reduceLeDiff, reduceCtorEq, ↓reduceIte, catT, enc0, enc1, if_pos, if_neg, AV.ren, ren_row_ix, ren_row_pt, frW])
    | (refine RCx.viewR (fid := 62) (caps := []) rfl rfl (viewArgs2 (viewG_flat (flat_pts l 2) _) (viewG_flat rfl _)) (c62 l (P (nrm (P l a) (P l b)) 1) hl hn sa (nrm_sm (qa a (by omega)) (qa b (by omega)) 1 (by omega))) (by simp only [AV.clean, clean_ix, Bool.and_self]) ?_; simp (maxSteps := 4000000) (disch := omega) only [dr0, dr1, dr2, dr3, dr4, if_true, if_false, Option.some.injEq, Nat.reduceEqDiff, Int.reduceToNat, Nat.reduceSub, Nat.reduceAdd, Nat.reduceMul, Nat.reduceLT, Nat.reduceLeDiff, reduceCtorEq, ↓reduceIte, catT, enc0, enc1, if_pos, if_neg, AV.ren, ren_row_ix, ren_row_pt, frW])
    | (refine RCx.view (fid := 111) (caps := []) rfl rfl (viewArgs2 (viewG_ixT rfl List.take_length (Nat.le_refl _)) (viewG_flat rfl _)) (c111 _ _ (by have := tl (P (nrm (P l a) (P l b)) 0); have := tl (P (nrm (P l a) (P l b)) 1); omega)) rfl ?_; simp (maxSteps := 4000000) (disch := omega) only [dr0, dr1, dr2, dr3, dr4, if_true, if_false, Option.some.injEq, Nat.reduceEqDiff, Int.reduceToNat, Nat.reduceSub, Nat.reduceAdd, Nat.reduceMul, Nat.reduceLT, Nat.reduceLeDiff, reduceCtorEq, ↓reduceIte, catT, enc0, enc1, if_pos, if_neg, AV.ren, ren_row_ix, ren_row_pt, frW])
    | (refine gX_split (fun hb => ?_) (fun hb => ?_) <;> (try simp only [hb]) <;> (try simp only [bset0, reduceCtorEq] at hb) <;> simp (maxSteps := 4000000) (disch := omega) only [dr0, dr1, dr2, dr3, dr4, if_true, if_false, Option.some.injEq, Nat.reduceEqDiff, Int.reduceToNat, Nat.reduceSub, Nat.reduceAdd, Nat.reduceMul, Nat.reduceLT, Nat.reduceLeDiff, reduceCtorEq, ↓reduceIte, catT, enc0, enc1, if_pos, if_neg, AV.ren, ren_row_ix, ren_row_pt, frW])
    | (refine CWx.br rfl (fun hb => ?_) (fun hb => ?_) <;> first | exact Bool.noConfusion hb | (first | (simp only [bset0, reduceCtorEq] at hb; done) | ((try simp only [bset0, reduceCtorEq] at hb); first | contradiction | skip)))
    | (refine CWx.e fun K hK => ?_; simp (maxSteps := 4000000) (disch := omega) only [dr0, dr1, dr2, dr3, dr4, if_true, if_false, Option.some.injEq, Nat.reduceEqDiff, Int.reduceToNat, Nat.reduceSub, Nat.reduceAdd, Nat.reduceMul, Nat.reduceLT, Nat.reduceLeDiff, reduceCtorEq, ↓reduceIte, catT, enc0, enc1, if_pos, if_neg, AV.ren, ren_row_ix, ren_row_pt, frW])
    | (refine CWx.block (id := 0) ?_; refine CWx.loopK (ι := Nat) [0, 1, 2] (fun a => l.length - a) (fun a => [(7, .int .i64 (a : Int))]) (fun a => []) (fun a => a ≤ l.length ∧ ∀ x, x < a → ∀ y, y < x → fcB l i j x y = false) (fun i => by simp only [keepA, Am.get, List.cons_append, List.nil_append, Nat.reduceEqDiff, ↓reduceIte]; exact rfl) (0) ?_ ?_ (fun a hi => ?_); (focus ((try dsimp only) <;> (first | trivial | omega | (refine ⟨?_, ?_⟩ <;> first | omega | trivial | simp_all) | simp_all); done)); (focus (refine Fgt.mk' 0 (by simp) ?_ ?_ ?_ <;> simp [-List.map_take, -List.map_map, AV.isY, ltL_append, ix_nil, keepB, Am.get, AV.lt, ltL, lt_pts, lt_pt, lt_ixV, ltL_ix, ltL_pt, Blk.lt, ltB]; done)); have Ha := hi; (skip))
    | (refine CWx.block (id := 2) ?_; refine CWx.loopK (ι := Nat) [0, 1, 2, 7] (fun b => a - b) (fun b => [(8, .int .i64 (b : Int))]) (fun b => []) (fun b => b ≤ a ∧ ∀ y, y < b → fcB l i j a y = false) (fun i => by simp only [keepA, Am.get, List.cons_append, List.nil_append, Nat.reduceEqDiff, ↓reduceIte]; exact rfl) (0) ?_ ?_ (fun b hi => ?_); (focus ((try dsimp only) <;> (first | trivial | omega | (refine ⟨?_, ?_⟩ <;> first | omega | trivial | simp_all) | simp_all); done)); (focus (refine Fgt.mk' 0 (by simp) ?_ ?_ ?_ <;> simp [-List.map_take, -List.map_map, AV.isY, ltL_append, ix_nil, keepB, Am.get, AV.lt, ltL, lt_pts, lt_pt, lt_ixV, ltL_ix, ltL_pt, Blk.lt, ltB]; done)); have Hb := hi; ((have hnl := nrm_length (P l a) (P l b))))
    | refine CWx.seq ?_
    | refine CWx.block (id := 1) ?_
    | refine CWx.block (id := 3) ?_
    | refine CWx.skip ?_
    | refine CWx.exit ?_
    | (refine CWx.ret fun al hal => finK_ext hal (finK_pure (.inr rfl) (by simp only [resRV, Am.get, Nat.reduceEqDiff, ↓reduceIte]; exact rfl) ?_ ?_); (focus (first | ((simp only [tupAV]; rw [facB_t (l := l) (a := a) (b := b) (by omega) (by omega) (by simp only [fcB, decide_eq_true_eq]; simp_all)]); done) | ((simp only [tupAV]; rw [facB_f (l := l) (fun x hx => hi.2 x (by omega))]); done) | (rfl; done) | ((simp only [tupAV]; congr <;> omega); done) | (simp [tupAV, *]; done))); (focus (first | rfl | (simp [AV.allR, allRL, allRL_ix]; done))))
    | (intro al hal; refine ⟨b + 1, ?_, ?_, Fgt.ofx hal ?_⟩; (focus (first | omega | (dsimp only; omega))); (focus (exact ⟨by omega, allUp hi.2 (by simp only [fcB, decide_eq_false_iff_not]; intro h; simp_all)⟩; done)); (focus (refine Fgt.mk' 0 (by simp) ?_ ?_ ?_ <;> simp [-List.map_take, -List.map_map, AV.isY, ltL_append, ix_nil, keepB, Am.get, AV.lt, ltL, lt_pts, lt_pt, lt_ixV, ltL_ix, ltL_pt, Blk.lt, ltB]; done)))
    | (intro al hal; refine ⟨a + 1, ?_, ?_, Fgt.ofx hal ?_⟩; (focus (first | omega | (dsimp only; omega))); (focus (exact ⟨by omega, allUp Ha.2 (fun y hy => hi.2 y (by omega))⟩; done)); (focus (refine Fgt.mk' 0 (by simp) ?_ ?_ ?_ <;> simp [-List.map_take, -List.map_map, AV.isY, ltL_append, ix_nil, keepB, Am.get, AV.lt, ltL, lt_pts, lt_pt, lt_ixV, ltL_ix, ltL_pt, Blk.lt, ltB]; done)))
end Go.Hull
end
section
set_option linter.unusedSimpArgs false
set_option linter.unusedVariables false
set_option maxHeartbeats 8000000
set_option maxRecDepth 100000
namespace Go.Hull
open Go Go.Am Go.Proofs

def okB (l : List Pt) (i j : Nat) : Bool := vertexB l i && (vertexB l j && facB l i j)
def prJ (ok : Nat → Nat → Bool) (i : Nat) (s : List Pt) : Nat → List Pt
  | 0 => s
  | m + 1 => prJ ok i s m ++ (if ok i (i + 1 + m) = true then [((i : Int), ((i + 1 + m : Nat) : Int))] else [])
def prI (ok : Nat → Nat → Bool) (n : Nat) : Nat → List Pt
  | 0 => []
  | i + 1 => prJ ok i (prI ok n i) (n - (i + 1))
def prK (ok : Nat → Nat → Bool) (n i j : Nat) : List Pt := prJ ok i (prI ok n i) (j - (i + 1))
theorem prI_zero (ok : Nat → Nat → Bool) (n : Nat) : prI ok n 0 = [] := rfl
theorem prK_zero (ok : Nat → Nat → Bool) (n i : Nat) : prK ok n i (i + 1) = prI ok n i := by unfold prK; rw [Nat.sub_self]; rfl
theorem prI_succ (ok : Nat → Nat → Bool) (n i : Nat) : prI ok n (i + 1) = prK ok n i n := rfl
theorem prK_succ (ok : Nat → Nat → Bool) (n i j : Nat) (h : i + 1 ≤ j) : prK ok n i (j + 1) = prK ok n i j ++ (if ok i j = true then [((i : Int), (j : Int))] else []) := by
  unfold prK
  rw [show j + 1 - (i + 1) = (j - (i + 1)) + 1 by omega, prJ, show i + 1 + (j - (i + 1)) = j by omega]
theorem prK_t (ok : Nat → Nat → Bool) (n i j : Nat) (h : i + 1 ≤ j) (h1 : ok i j = true) : prK ok n i (j + 1) = prK ok n i j ++ [((i : Int), (j : Int))] := by rw [prK_succ ok n i j h, if_pos h1]
theorem prK_f (ok : Nat → Nat → Bool) (n i j : Nat) (h : i + 1 ≤ j) (h1 : ok i j = false) : prK ok n i (j + 1) = prK ok n i j := by rw [prK_succ ok n i j h, if_neg (by rw [h1]; decide), List.append_nil]
theorem prJ_len (ok : Nat → Nat → Bool) (i : Nat) (s : List Pt) (m : Nat) : (prJ ok i s m).length ≤ s.length + m := by
  induction m with
  | zero => exact Nat.le_refl _
  | succ m ih => rw [prJ, List.length_append]; split <;> simp <;> omega
theorem prI_len (ok : Nat → Nat → Bool) (n i : Nat) : (prI ok n i).length ≤ i * n := by
  induction i with
  | zero => simp [prI]
  | succ i ih =>
    have := prJ_len ok i (prI ok n i) (n - (i + 1))
    rw [prI, Nat.succ_mul]; omega
theorem prK_len (ok : Nat → Nat → Bool) (n i j : Nat) (hn : n ≤ 8) (hi : i ≤ 8) (hj : j ≤ 8) : (prK ok n i j).length ≤ 72 := by
  have h1 := prJ_len ok i (prI ok n i) (j - (i + 1))
  have h2 := prI_len ok n i
  have h3 := Nat.mul_le_mul hi hn
  unfold prK; omega
theorem prI_lenn (ok : Nat → Nat → Bool) (n i : Nat) (hn : n ≤ 8) (hi : i ≤ 8) : (prI ok n i).length ≤ 72 := by
  have h2 := prI_len ok n i
  have h3 := Nat.mul_le_mul hi hn
  omega
theorem c66 (l : List Pt) (hl : 0 < l.length) (hn : l.length ≤ 8) (oka : l.all okP = true) : CallsF Try.prog 66 [pts l] [] (.sl 0 0 0 (prI (okB l) l.length l.length).length) [.row (prI (okB l) l.length l.length).isEmpty 0 false 2 ((prI (okB l) l.length l.length).map pt)] := by
  have lK := fun i j => prK_len (okB l) l.length i j hn
  have lI := fun i => prI_lenn (okB l) l.length i hn
  refine callsF_cwx hm hf66 (by simp [cf66]) ?_
  simp only [cf66, argsAl]
  repeat' first
    | (refine hK _ _ _ (by first | exact fun h => Bool.noConfusion h | exact fun _ => rfl) ?_; clear hK K)
    | (refine CWx.r fun K hK => ?_; simp (maxSteps := 4000000) (disch := omega) only [dr0, dr1, dr2, dr3, dr4, if_true, if_false, Option.some.injEq, Nat.reduceEqDiff, Int.reduceToNat, Nat.reduceSub, Nat.reduceAdd, Nat.reduceMul, Nat.reduceLT, Nat.reduceLeDiff, reduceCtorEq, ↓reduceIte, catT, enc0, enc1, if_pos, if_neg])
    | refine CWx.go ?_
    | (apply RCx.view (fid := 89) (caps := []) rfl rfl; (focus ((simp only [evsA, evA_t, evA_c, Am.get, Nat.reduceEqDiff, ↓reduceIte, List.nil_append, List.cons_append, List.append_nil]; repeat' first | exact viewArgs_nil | apply viewArgs_cons | exact viewG_flat (flat_pts _ _) _ | exact viewG_flat (flat_ixV _ _) _ | exact viewG_flat (flat_sv _ _) _ | exact viewG_ixT rfl (by assumption) (by omega) | exact viewG_ptsL rfl (by first | omega | (simp; done) | (simp; omega)) | exact viewG_ix rfl (by first | omega | (simp; omega)) | exact viewG_flat rfl _; done))); (focus (refine c89 l _ ?_ ?_ oka <;> first | omega | assumption)); (focus rfl); simp (maxSteps := 4000000) (disch := omega) only [dr0, dr1, dr2, dr3, dr4, if_true, if_false, Option.some.injEq, Nat.reduceEqDiff, Int.reduceToNat, Nat.reduceSub, Nat.reduceAdd, Nat.reduceMul, Nat.reduceLT, Nat.reduceLeDiff, reduceCtorEq, ↓reduceIte, catT, enc0, enc1, if_pos, if_neg])
    | (apply RCx.view (fid := 96) (caps := []) rfl rfl; (focus ((simp only [evsA, evA_t, evA_c, Am.get, Nat.reduceEqDiff, ↓reduceIte, List.nil_append, List.cons_append, List.append_nil]; repeat' first | exact viewArgs_nil | apply viewArgs_cons | exact viewG_flat (flat_pts _ _) _ | exact viewG_flat (flat_ixV _ _) _ | exact viewG_flat (flat_sv _ _) _ | exact viewG_ixT rfl (by assumption) (by omega) | exact viewG_ptsL rfl (by first | omega | (simp; done) | (simp; omega)) | exact viewG_ix rfl (by first | omega | (simp; omega)) | exact viewG_flat rfl _; done))); (focus (refine c96 l _ _ hl ?_ oka <;> first | omega | assumption)); (focus rfl); simp (maxSteps := 4000000) (disch := omega) only [dr0, dr1, dr2, dr3, dr4, if_true, if_false, Option.some.injEq, Nat.reduceEqDiff, Int.reduceToNat, Nat.reduceSub, Nat.reduceAdd, Nat.reduceMul, Nat.reduceLT, Nat.reduceLeDiff, reduceCtorEq, ↓reduceIte, catT, enc0, enc1, if_pos, if_neg])
    | (refine gX_split (fun hb => ?_) (fun hb => ?_) <;> (try simp only [hb]) <;> (try simp only [bset0, reduceCtorEq] at hb) <;> simp (maxSteps := 4000000) (disch := omega) only [dr0, dr1, dr2, dr3, dr4, if_true, if_false, Option.some.injEq, Nat.reduceEqDiff, Int.reduceToNat, Nat.reduceSub, Nat.reduceAdd, Nat.reduceMul, Nat.reduceLT, Nat.reduceLeDiff, reduceCtorEq, ↓reduceIte, catT, enc0, enc1, if_pos, if_neg])
    | (refine CWx.br rfl (fun hb => ?_) (fun hb => ?_) <;> first | exact Bool.noConfusion hb | (first | (simp only [bset0, reduceCtorEq] at hb; done) | ((try simp only [bset0, reduceCtorEq] at hb); first | contradiction | skip)))
    | (refine CWx.e fun K hK => ?_; simp (maxSteps := 4000000) (disch := omega) only [dr0, dr1, dr2, dr3, dr4, if_true, if_false, Option.some.injEq, Nat.reduceEqDiff, Int.reduceToNat, Nat.reduceSub, Nat.reduceAdd, Nat.reduceMul, Nat.reduceLT, Nat.reduceLeDiff, reduceCtorEq, ↓reduceIte, catT, enc0, enc1, if_pos, if_neg])
    | (refine CWx.block (id := 0) ?_; refine CWx.loopK (ι := Nat × Nat) [0] (fun q => l.length - q.1) (fun q => [(4, .int .i64 (q.1 : Int)), (3, .sl 1 q.2 0 (prI (okB l) l.length q.1).length)]) (fun q => [.row true 0 false 2 [], .row (prI (okB l) l.length q.1).isEmpty q.2 false 2 ((prI (okB l) l.length q.1).map pt)]) (fun q => q.1 ≤ l.length) (fun i => by simp only [keepA, Am.get, List.cons_append, List.nil_append, Nat.reduceEqDiff, ↓reduceIte]; exact rfl) ((0, 0)) ?_ ?_ (fun q hi => ?_); (focus ((try dsimp only) <;> (first | trivial | omega | (refine ⟨?_, ?_⟩ <;> first | omega | trivial | simp_all) | simp_all); done)); (focus (refine Fgt.mk' 2 (by simp) ?_ ?_ ?_ <;> simp [-List.map_take, -List.map_map, AV.isY, ltL_append, ix_nil, keepB, Am.get, AV.lt, ltL, lt_pts, lt_pt, lt_ixV, ltL_ix, ltL_pt, Blk.lt, ltB, prI_zero]; done)); have Hq := hi; ((have hq := lI q.1)))
    | (refine CWx.block (id := 2) ?_; refine CWx.loopK (ι := Nat × Nat) [0, 4] (fun r => l.length - r.1) (fun r => [(5, .int .i64 (r.1 : Int)), (3, .sl 1 r.2 0 (prK (okB l) l.length q.1 r.1).length)]) (fun r => [.row true 0 false 2 [], .row (prK (okB l) l.length q.1 r.1).isEmpty r.2 false 2 ((prK (okB l) l.length q.1 r.1).map pt)]) (fun r => q.1 + 1 ≤ r.1 ∧ r.1 ≤ l.length) (fun i => by simp only [keepA, Am.get, List.cons_append, List.nil_append, Nat.reduceEqDiff, ↓reduceIte]; exact rfl) ((q.1 + 1, q.2)) ?_ ?_ (fun r hi => ?_); (focus ((try dsimp only) <;> (first | trivial | omega | (refine ⟨?_, ?_⟩ <;> first | omega | trivial | simp_all) | simp_all); done)); (focus (refine Fgt.mk' 2 (by simp) ?_ ?_ ?_ <;> simp [-List.map_take, -List.map_map, AV.isY, ltL_append, ix_nil, keepB, Am.get, AV.lt, ltL, lt_pts, lt_pt, lt_ixV, ltL_ix, ltL_pt, Blk.lt, ltB, prK_zero]; done)); have Hr := hi; ((have hr := lK q.1 r.1)))
    | refine CWx.seq ?_
    | refine CWx.block (id := 1) ?_
    | refine CWx.block (id := 3) ?_
    | refine CWx.skip ?_
    | (refine CWx.exit (id := 2) ?_; (have er : r.1 = l.length := by omega); simp only [er])
    | (refine CWx.exit (id := 0) ?_; (have eq : q.1 = l.length := by omega); simp only [eq])
    | refine CWx.exit ?_
    | (refine CWx.ret fun al hal => finK_ext hal (finK_pure (.inr rfl) (by simp only [resRV, Am.get, Nat.reduceEqDiff, ↓reduceIte]; exact rfl) ?_ ?_); (focus (first | (rfl; done) | ((simp only [tupAV]; congr <;> omega); done) | (simp [tupAV, *]; done))); (focus (first | rfl | (simp [AV.allR, allRL, allRL_ix]; done))))
    | (intro al hal; refine ⟨(r.1 + 1, r.2 + 1), ?_, ?_, Fgt.ofx hal ?_⟩; (focus (first | omega | (dsimp only; omega))); (focus ((try dsimp only) <;> (first | trivial | omega | (refine ⟨?_, ?_⟩ <;> first | omega | trivial | simp_all) | simp_all); done)); (focus (refine Fgt.mk' 2 (by simp) ?_ ?_ ?_ <;> simp [-List.map_take, -List.map_map, AV.isY, ltL_append, ix_nil, keepB, Am.get, AV.lt, ltL, lt_pts, lt_pt, lt_ixV, ltL_ix, ltL_pt, Blk.lt, ltB, prK_zero, prK_t (okB l) l.length q.1 r.1 (by omega) (by simp_all [okB])]; done)))
    | (intro al hal; refine ⟨(r.1 + 1, r.2), ?_, ?_, Fgt.ofx hal ?_⟩; (focus (first | omega | (dsimp only; omega))); (focus ((try dsimp only) <;> (first | trivial | omega | (refine ⟨?_, ?_⟩ <;> first | omega | trivial | simp_all) | simp_all); done)); (focus (refine Fgt.mk' 2 (by simp) ?_ ?_ ?_ <;> simp [-List.map_take, -List.map_map, AV.isY, ltL_append, ix_nil, keepB, Am.get, AV.lt, ltL, lt_pts, lt_pt, lt_ixV, ltL_ix, ltL_pt, Blk.lt, ltB, prK_zero, prK_f (okB l) l.length q.1 r.1 (by omega) (by simp_all [okB])]; done)))
    | (intro al hal; refine ⟨(q.1 + 1, r.2), ?_, ?_, Fgt.ofx hal ?_⟩; (focus (first | omega | (dsimp only; omega))); (focus ((try dsimp only) <;> (first | trivial | omega | (refine ⟨?_, ?_⟩ <;> first | omega | trivial | simp_all) | simp_all); done)); (focus (refine Fgt.mk' 2 (by simp) ?_ ?_ ?_ <;> simp [-List.map_take, -List.map_map, AV.isY, ltL_append, ix_nil, keepB, Am.get, AV.lt, ltL, lt_pts, lt_pt, lt_ixV, ltL_ix, ltL_pt, Blk.lt, ltB, prI_zero, prI_succ]; done)))
    | (refine CWx.ret fun al hal => finK_ext hal (finK_new (b := 1) (.inr rfl) (by simp only [resRV, Am.get, Nat.reduceEqDiff, ↓reduceIte]; exact rfl) rfl (by first | exact allRL_ix _ _ _ | exact allRL_pts _ _ _ | rfl) ?_ ?_) <;> (simp [tupAV, AV.allR, allRL, sigP, AV.mapR, mapRL, sigF]; done))
def antR (l : List Pt) : List Pt × Int := if chk l ≠ 0 then ([], chk l) else (prI (okB l) l.length l.length, 0)
theorem c21 (l : List Pt) (hn : l.length < 4611686018427387904) (h8 : chk l = 0 → l.length ≤ 8) : CallsF Try.prog 21 [pts l] [] (.tup [.sl 0 0 0 (antR l).1.length, .int .i64 (antR l).2]) [.row (antR l).1.isEmpty 0 false 2 ((antR l).1.map pt)] := by
  have k := c58 l hn
  by_cases hc : chk l = 0
  · rw [hc] at k
    have hr : antR l = (prI (okB l) l.length l.length, 0) := by unfold antR; rw [if_neg (by simp [hc])]
    rw [hr]
    have k66 : CallsF Try.prog 66 [pts l] [] (.sl 0 0 0 (prI (okB l) l.length l.length).length) [.row (prI (okB l) l.length l.length).isEmpty 0 false 2 ((prI (okB l) l.length l.length).map pt)] := by
      by_cases hl : 0 < l.length
      · exact c66 l hl (h8 hc) (chk_ok hc)
      · obtain rfl : l = [] := List.eq_nil_of_length_eq_zero (by omega)
        exact xFm_sound hm tOk Aw.ok0 20 _ _ _ _ _ (by kernel_rfl : xFm Aw.nm T Aw.ms0 1000 20 66 [.sv false 2 []] [] = some (.sl 0 0 0 0, [.row true 0 false 2 []]))
    refine callsF_cwx hm hf21 (by simp [cf21]) ?_
    simp only [cf21, argsAl]
    repeat' first
      | (refine hK _ _ _ (by first | exact fun h => Bool.noConfusion h | exact fun _ => rfl) ?_; clear hK K)
      | (refine CWx.r fun K hK => ?_; simp (maxSteps := 4000000) (disch := omega) only [dr0, dr1, dr2, dr3, dr4, if_true, if_false, Option.some.injEq, Nat.reduceEqDiff, Int.reduceToNat, Nat.reduceSub, Nat.reduceAdd, Nat.reduceMul, Nat.reduceLT, Nat.reduceLeDiff, reduceCtorEq, ↓reduceIte, catT, enc0, enc1, if_pos, if_neg, AV.ren, ren_row_pt])
      | refine CWx.go ?_
      | (apply RCx.view (fid := 58) (caps := []) rfl rfl; (focus ((simp only [evsA, evA_t, evA_c, Am.get, Nat.reduceEqDiff, ↓reduceIte, List.nil_append, List.cons_append, List.append_nil]; repeat' first | exact viewArgs_nil | apply viewArgs_cons | exact viewG_flat (flat_pts _ _) _ | exact viewG_flat (flat_ixV _ _) _ | exact viewG_flat (flat_sv _ _) _ | exact viewG_ixT rfl (by assumption) (by omega) | exact viewG_ptsL rfl (by first | omega | (simp; done) | (simp; omega)) | exact viewG_ix rfl (by first | omega | (simp; omega)) | exact viewG_flat rfl _; done))); (focus (refine k <;> first | omega | assumption)); (focus rfl); simp (maxSteps := 4000000) (disch := omega) only [dr0, dr1, dr2, dr3, dr4, if_true, if_false, Option.some.injEq, Nat.reduceEqDiff, Int.reduceToNat, Nat.reduceSub, Nat.reduceAdd, Nat.reduceMul, Nat.reduceLT, Nat.reduceLeDiff, reduceCtorEq, ↓reduceIte, catT, enc0, enc1, if_pos, if_neg, AV.ren, ren_row_pt])
      | (refine RCx.viewR (fid := 66) (caps := []) rfl rfl (viewArgs_flat1 (flat_pts l 2)) k66 (by simp only [AV.clean, clean_ptr, Bool.and_self]) ?_; simp (maxSteps := 4000000) (disch := omega) only [dr0, dr1, dr2, dr3, dr4, if_true, if_false, Option.some.injEq, Nat.reduceEqDiff, Int.reduceToNat, Nat.reduceSub, Nat.reduceAdd, Nat.reduceMul, Nat.reduceLT, Nat.reduceLeDiff, reduceCtorEq, ↓reduceIte, catT, enc0, enc1, if_pos, if_neg, AV.ren, ren_row_pt])
      | (refine gX_split (fun hb => ?_) (fun hb => ?_) <;> (try simp only [hb]) <;> (try simp only [bset0, reduceCtorEq] at hb) <;> simp (maxSteps := 4000000) (disch := omega) only [dr0, dr1, dr2, dr3, dr4, if_true, if_false, Option.some.injEq, Nat.reduceEqDiff, Int.reduceToNat, Nat.reduceSub, Nat.reduceAdd, Nat.reduceMul, Nat.reduceLT, Nat.reduceLeDiff, reduceCtorEq, ↓reduceIte, catT, enc0, enc1, if_pos, if_neg, AV.ren, ren_row_pt])
      | (refine CWx.br rfl (fun hb => ?_) (fun hb => ?_) <;> first | exact Bool.noConfusion hb | (first | (simp only [bset0, reduceCtorEq] at hb; done) | ((try simp only [bset0, reduceCtorEq] at hb); first | contradiction | skip)))
      | (refine CWx.e fun K hK => ?_; simp (maxSteps := 4000000) (disch := omega) only [dr0, dr1, dr2, dr3, dr4, if_true, if_false, Option.some.injEq, Nat.reduceEqDiff, Int.reduceToNat, Nat.reduceSub, Nat.reduceAdd, Nat.reduceMul, Nat.reduceLT, Nat.reduceLeDiff, reduceCtorEq, ↓reduceIte, catT, enc0, enc1, if_pos, if_neg, AV.ren, ren_row_pt])
      | refine CWx.seq ?_
      | refine CWx.skip ?_
      | refine CWx.exit ?_
      | (refine CWx.ret fun al hal => finK_ext hal (finK_pure (.inr rfl) (by simp only [resRV, Am.get, Nat.reduceEqDiff, ↓reduceIte]; exact rfl) ?_ ?_); (focus (first | (rfl; done) | ((simp only [tupAV]; congr <;> omega); done) | (simp [tupAV, *]; done))); (focus (first | rfl | (simp [AV.allR, allRL, allRL_ix]; done))))
      | (refine CWx.ret fun al hal => finK_ext hal (finK_new (b := 1) (.inr rfl) (by simp only [resRV, Am.get, Nat.reduceEqDiff, ↓reduceIte]; exact rfl) rfl (by first | exact allRL_ix _ _ _ | exact allRL_pts _ _ _ | rfl) ?_ ?_) <;> (simp [tupAV, AV.allR, allRL, sigP, AV.mapR, mapRL, sigF]; done))
      | (refine CWx.ret fun al hal => finK_ext hal (finK_new (b := 2) (.inr rfl) (by simp only [resRV, Am.get, Nat.reduceEqDiff, ↓reduceIte]; exact rfl) rfl (by first | exact allRL_ix _ _ _ | exact allRL_pts _ _ _ | rfl) ?_ ?_) <;> (simp [tupAV, AV.allR, allRL, sigP, AV.mapR, mapRL, sigF]; done))
      | (refine CWx.ret fun al hal => finK_ext hal (finK_new (b := 3) (.inr rfl) (by simp only [resRV, Am.get, Nat.reduceEqDiff, ↓reduceIte]; exact rfl) rfl (by first | exact allRL_ix _ _ _ | exact allRL_pts _ _ _ | rfl) ?_ ?_) <;> (simp [tupAV, AV.allR, allRL, sigP, AV.mapR, mapRL, sigF]; done))
  · have hr : antR l = ([], chk l) := by unfold antR; rw [if_pos hc]
    rw [hr]
    refine callsF_cwx hm hf21 (by simp [cf21]) ?_
    simp only [cf21, argsAl]
    repeat' first
      | (refine hK _ _ _ (by first | exact fun h => Bool.noConfusion h | exact fun _ => rfl) ?_; clear hK K)
      | (refine CWx.r fun K hK => ?_; simp (maxSteps := 4000000) (disch := omega) only [dr0, dr1, dr2, dr3, dr4, if_true, if_false, Option.some.injEq, Nat.reduceEqDiff, Int.reduceToNat, Nat.reduceSub, Nat.reduceAdd, Nat.reduceMul, Nat.reduceLT, Nat.reduceLeDiff, reduceCtorEq, ↓reduceIte, catT, enc0, enc1, if_pos, if_neg])
      | refine CWx.go ?_
      | (apply RCx.view (fid := 58) (caps := []) rfl rfl; (focus ((simp only [evsA, evA_t, evA_c, Am.get, Nat.reduceEqDiff, ↓reduceIte, List.nil_append, List.cons_append, List.append_nil]; repeat' first | exact viewArgs_nil | apply viewArgs_cons | exact viewG_flat (flat_pts _ _) _ | exact viewG_flat (flat_ixV _ _) _ | exact viewG_flat (flat_sv _ _) _ | exact viewG_ixT rfl (by assumption) (by omega) | exact viewG_ptsL rfl (by first | omega | (simp; done) | (simp; omega)) | exact viewG_ix rfl (by first | omega | (simp; omega)) | exact viewG_flat rfl _; done))); (focus (refine k <;> first | omega | assumption)); (focus rfl); simp (maxSteps := 4000000) (disch := omega) only [dr0, dr1, dr2, dr3, dr4, if_true, if_false, Option.some.injEq, Nat.reduceEqDiff, Int.reduceToNat, Nat.reduceSub, Nat.reduceAdd, Nat.reduceMul, Nat.reduceLT, Nat.reduceLeDiff, reduceCtorEq, ↓reduceIte, catT, enc0, enc1, if_pos, if_neg])
      | (refine gX_split (fun hb => ?_) (fun hb => ?_) <;> (try simp only [hb]) <;> (try simp only [bset0, reduceCtorEq] at hb) <;> simp (maxSteps := 4000000) (disch := omega) only [dr0, dr1, dr2, dr3, dr4, if_true, if_false, Option.some.injEq, Nat.reduceEqDiff, Int.reduceToNat, Nat.reduceSub, Nat.reduceAdd, Nat.reduceMul, Nat.reduceLT, Nat.reduceLeDiff, reduceCtorEq, ↓reduceIte, catT, enc0, enc1, if_pos, if_neg])
      | (refine CWx.br rfl (fun hb => ?_) (fun hb => ?_) <;> first | exact Bool.noConfusion hb | (first | (simp only [bset0, reduceCtorEq] at hb; done) | ((try simp only [bset0, reduceCtorEq] at hb); first | contradiction | skip)))
      | (refine CWx.e fun K hK => ?_; simp (maxSteps := 4000000) (disch := omega) only [dr0, dr1, dr2, dr3, dr4, if_true, if_false, Option.some.injEq, Nat.reduceEqDiff, Int.reduceToNat, Nat.reduceSub, Nat.reduceAdd, Nat.reduceMul, Nat.reduceLT, Nat.reduceLeDiff, reduceCtorEq, ↓reduceIte, catT, enc0, enc1, if_pos, if_neg])
      | refine CWx.seq ?_
      | refine CWx.skip ?_
      | refine CWx.exit ?_
      | (refine CWx.ret fun al hal => finK_ext hal (finK_pure (.inr rfl) (by simp only [resRV, Am.get, Nat.reduceEqDiff, ↓reduceIte]; exact rfl) ?_ ?_); (focus (first | (rfl; done) | ((simp only [tupAV]; congr <;> omega); done) | (simp [tupAV, *]; done))); (focus (first | rfl | (simp [AV.allR, allRL, allRL_ix]; done))))
      | (refine CWx.ret fun al hal => finK_ext hal (finK_new (b := 1) (.inr rfl) (by simp only [resRV, Am.get, Nat.reduceEqDiff, ↓reduceIte]; exact rfl) rfl (by first | exact allRL_ix _ _ _ | exact allRL_pts _ _ _ | rfl) ?_ ?_) <;> (simp [tupAV, AV.allR, allRL, sigP, AV.mapR, mapRL, sigF]; done))
      | (refine CWx.ret fun al hal => finK_ext hal (finK_new (b := 2) (.inr rfl) (by simp only [resRV, Am.get, Nat.reduceEqDiff, ↓reduceIte]; exact rfl) rfl (by first | exact allRL_ix _ _ _ | exact allRL_pts _ _ _ | rfl) ?_ ?_) <;> (simp [tupAV, AV.allR, allRL, sigP, AV.mapR, mapRL, sigF]; done))
      | (refine CWx.ret fun al hal => finK_ext hal (finK_new (b := 3) (.inr rfl) (by simp only [resRV, Am.get, Nat.reduceEqDiff, ↓reduceIte]; exact rfl) rfl (by first | exact allRL_ix _ _ _ | exact allRL_pts _ _ _ | rfl) ?_ ?_) <;> (simp [tupAV, AV.allR, allRL, sigP, AV.mapR, mapRL, sigF]; done))
theorem take_extP {a b : List Pt} {i : Nat} (hi : i < a.length) (hj : i < b.length) (h : a.take i = b.take i) (e : P a i = P b i) : a.take (i + 1) = b.take (i + 1) := by
  rw [take_succP a hi, take_succP b hj, h, e]
theorem c22 (a b : List Pt) (hn : a.length < 4611686018427387904) : CallsF Try.prog 22 [pts a, pts b] [] (.bool (decide (a = b))) [] := by
  refine callsF_cwx hm hf22 (by simp [cf22]) ?_
  simp only [cf22, argsAl]
  repeat' first
    | (refine hK _ _ _ (by first | exact fun h => Bool.noConfusion h | exact fun _ => rfl) ?_; clear hK K)
    | (refine CWx.r fun K hK => ?_; simp (maxSteps := 4000000) (disch := omega) only [dr0, dr1, dr2, dr3, dr4, if_true, if_false, Option.some.injEq, Nat.reduceEqDiff, Int.reduceToNat, Nat.reduceSub, Nat.reduceAdd, Nat.reduceMul, Nat.reduceLT, Nat.reduceLeDiff, reduceCtorEq, ↓reduceIte, catT, enc0, enc1, if_pos, if_neg])
    | refine CWx.go ?_
    | (refine gX_split (fun hb => ?_) (fun hb => ?_) <;> (try simp only [hb]) <;> (try simp only [bset0, reduceCtorEq] at hb) <;> first | omega | simp (maxSteps := 4000000) (disch := omega) only [dr0, dr1, dr2, dr3, dr4, if_true, if_false, Option.some.injEq, Nat.reduceEqDiff, Int.reduceToNat, Nat.reduceSub, Nat.reduceAdd, Nat.reduceMul, Nat.reduceLT, Nat.reduceLeDiff, reduceCtorEq, ↓reduceIte, catT, enc0, enc1, if_pos, if_neg])
    | (refine CWx.br rfl (fun hb => ?_) (fun hb => ?_) <;> first | exact Bool.noConfusion hb | (first | (simp only [bset0, reduceCtorEq] at hb; done) | ((try simp only [bset0, reduceCtorEq] at hb); first | omega | skip)))
    | (refine CWx.e fun K hK => ?_; simp (maxSteps := 4000000) (disch := omega) only [dr0, dr1, dr2, dr3, dr4, if_true, if_false, Option.some.injEq, Nat.reduceEqDiff, Int.reduceToNat, Nat.reduceSub, Nat.reduceAdd, Nat.reduceMul, Nat.reduceLT, Nat.reduceLeDiff, reduceCtorEq, ↓reduceIte, catT, enc0, enc1, if_pos, if_neg])
    | (refine CWx.block (id := 0) ?_; refine CWx.loopK (ι := Nat) [0, 1] (fun i => a.length - i) (fun i => [(5, .int .i64 (i : Int))]) (fun i => []) (fun i => a.length = b.length ∧ i ≤ a.length ∧ a.take i = b.take i) (fun i => by simp only [keepA, Am.get, List.cons_append, List.nil_append, Nat.reduceEqDiff, ↓reduceIte]; exact rfl) (0) ?_ ?_ (fun i hi => ?_); (focus (exact ⟨by omega, Nat.zero_le _, rfl⟩; done)); (focus (refine Fgt.mk' 0 (by simp) ?_ ?_ ?_ <;> simp [-List.map_take, -List.map_map, AV.isY, ltL_append, ix_nil, keepB, Am.get, AV.lt, ltL, lt_pts, lt_pt, lt_ixV, ltL_ix, ltL_pt, Blk.lt, ltB]; done)); have Hi := hi; (skip))
    | refine CWx.seq ?_
    | refine CWx.block (id := 1) ?_
    | refine CWx.skip ?_
    | refine CWx.exit ?_
    | (refine CWx.ret fun al hal => finK_ext hal (finK_pure (.inr rfl) (by simp only [resRV, Am.get, Nat.reduceEqDiff, ↓reduceIte]; exact rfl) ?_ ?_); (focus (first | ((simp only [tupAV]; rw [decide_eq_false (fun e => absurd (show P a i = P b i by rw [e]) (by assumption))]); done) | ((simp only [tupAV]; rw [decide_eq_false (fun e => absurd (show a.length = b.length by rw [e]) (by omega))]); done) | ((simp only [tupAV]; rw [decide_eq_true (show a = b by have h := hi.2.2; rw [List.take_of_length_le (by omega), List.take_of_length_le (by omega)] at h; exact h)]); done) | (rfl; done) | ((simp only [tupAV]; congr <;> omega); done) | (simp [tupAV, *]; done))); (focus (first | rfl | (simp [AV.allR, allRL, allRL_ix]; done))))
    | (intro al hal; refine ⟨i + 1, ?_, ?_, Fgt.ofx hal ?_⟩; (focus (first | omega | (dsimp only; omega))); (focus (exact ⟨by omega, by omega, take_extP (by omega) (by omega) hi.2.2 (by assumption)⟩; done)); (focus (refine Fgt.mk' 0 (by simp) ?_ ?_ ?_ <;> simp [-List.map_take, -List.map_map, AV.isY, ltL_append, ix_nil, keepB, Am.get, AV.lt, ltL, lt_pts, lt_pt, lt_ixV, ltL_ix, ltL_pt, Blk.lt, ltB]; done)))
end Go.Hull
end
section
set_option linter.unusedSimpArgs false
set_option linter.unusedVariables false
namespace Go.Am
open Go Go.RowKit

theorem RCx.oneN {P : Program} {f : Opd} {xs : List Opd} {dst : Option Nat} {bef : Nat} {l : List (Nat × AV)} {hl : List Blk} {tr : Tr} {next : List (Nat × AV) → List Blk → Tr → Prop}
    {fid : FuncId} {caps : List AV} (hf : evA l f = .clo fid caps) {X args : List AV} (hX : evsA l xs ++ caps = X) {b : Nat} {T0 : List Nat} (hv : ArgsB hl b T0 X args) {blk blk' nb : Blk} {r : AV} (hC : CallsF P fid args [blk] r [blk', nb]) (hb : b < hl.length) (hblk : hget hl b = blk) (hl0 : blk.lt 0 = true)
    (hr : (r.clean && nb.clean) = true) (hl1 : blk'.lt 0 = true) (hcl : blk'.clean = true) {r' : AV} (hr' : r.ren (sigma [b] hl.length) = r') {nb' : Blk} (hn' : nb.ren (sigma [b] hl.length) = nb') (h : next (consO l dst r') (hsetL hl [(b, blk'), (hl.length, nb')]) ((b :: (T0 ++ [hl.length]), [b, hl.length], bef) :: tr)) : RCx P f xs dst bef l hl tr next := by
  obtain ⟨h1, h2⟩ := hv.spec
  subst hr' hn'
  simp only [Bool.and_eq_true] at hr
  refine ⟨fid, caps, b :: (T0 ++ [hl.length]), _, [(b, blk'), (hl.length, nb.ren (sigma [b] hl.length))], by rw [evA_eq]; exact hf, ?_, ?_, h⟩
  · have := CallsF.frame true hC (h := hget hl) (T := b :: (T0 ++ [hl.length])) (names := [b]) (n := hl.length) ⟨rfl, by simp, by simp, fun x hx => (by rw [List.mem_singleton.1 hx]; exact hb), fun i x hx => (by
        cases i with
        | zero => simp only [List.getElem?_cons_zero, Option.some.injEq] at hx; subst hx; rw [hblk]; exact (ltB_zero hl0 _).symm
        | succ i => simp at hx), fun b hb1 _ => hget_dead _ _ hb1, fun b' hb' => (by rw [List.mem_singleton.1 hb']; exact blt_mono (Nat.zero_le _) hl0)⟩ (fun x hx => (by rw [List.mem_singleton.1 hx]; simp))
      (fun b hb1 hb2 => (by simp at hb2 ⊢; right; right; omega)) h1 (fun i Y y hY hy => h2 i Y y hY hy (fun b' hb' => List.mem_cons_of_mem _ (List.mem_append_left _ hb'))) (fun _ => ⟨hr.1, fun b' hb' => (by
        rcases List.mem_cons.1 hb' with rfl | hb'
        · exact hcl
        · rw [List.mem_singleton.1 hb']; exact hr.2)⟩)
    simp only [frW, ltB_zero hl1] at this
    rw [evsA_eq, hX]
    simpa [sigma] using this
  · simp [okW]
    split
    · omega
    · simp; omega
/-- An iterator is done; rows that the rounds made are kept, up to m. -/
theorem rangeEndM {K : Exit → St → Prop} {rvs : List RV} {n0 : Nat} {al al2 l0 : List (Nat × AV)} {hl H : List Blk} {e : Exit} (m : Nat) (hm : n0 ≤ m) (he : e = .normal ∨ e = .ret) (hr : (resRV al2 hl rvs).isSome = true) (hH : hl.take m = H) (hlt : ltB m H) (hal : get al = get l0) (h : ∀ al, get al = get l0 → K .normal ⟨al, H⟩) : rangeK rvs n0 al K e ⟨al2, hl⟩ none :=
  ⟨he, hr, .inl rfl, m, hm, by rw [hH]; exact ltB_mem hlt, by rw [hH]; exact h al hal⟩
end Go.Am
end
