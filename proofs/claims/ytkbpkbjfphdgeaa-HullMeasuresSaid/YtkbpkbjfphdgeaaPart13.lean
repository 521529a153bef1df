/- The reference's tests: between, within, in the hull, vertex, follows: walks.
   Conditions: the points are in range. -/
import Derived.Test.YtkbpkbjfphdgeaaPart12
section
set_option linter.unusedSimpArgs false
set_option linter.unusedVariables false
set_option maxHeartbeats 8000000
set_option maxRecDepth 100000
namespace Go.Hull
open Go Go.Am Go.Proofs

theorem c32 (n : Int) : CallsF Try.prog 32 [.int .i64 n] [] (.int .i64 (sgn n)) [] := by
  refine callsF_cwx hm hf32 (by simp [cf32]) ?_
  simp only [cf32, argsAl]
  repeat' first
    | (refine hK _ _ _ (by first | exact fun h => Bool.noConfusion h | exact fun _ => rfl) ?_; clear hK K)
    | (refine CWx.r fun K hK => ?_; simp (maxSteps := 4000000) (disch := omega) only [dr0, dr1, dr2, dr3, dr4, if_true, if_false, Option.some.injEq, Nat.reduceEqDiff, Int.reduceToNat, Nat.reduceSub, Nat.reduceAdd, Nat.reduceMul, Nat.reduceLT, Nat.reduceLeDiff, reduceCtorEq, ↓reduceIte, catT, enc0, enc1, if_pos, if_neg])
    | refine CWx.go ?_
    | (refine gX_split (fun hb => ?_) (fun hb => ?_) <;> (try simp only [hb]) <;> (try simp only [bset0, reduceCtorEq] at hb) <;> simp (maxSteps := 4000000) (disch := omega) only [dr0, dr1, dr2, dr3, dr4, if_true, if_false, Option.some.injEq, Nat.reduceEqDiff, Int.reduceToNat, Nat.reduceSub, Nat.reduceAdd, Nat.reduceMul, Nat.reduceLT, Nat.reduceLeDiff, reduceCtorEq, ↓reduceIte, catT, enc0, enc1, if_pos, if_neg])
    | (refine CWx.br rfl (fun hb => ?_) (fun hb => ?_) <;> first | exact Bool.noConfusion hb | (first | (simp only [bset0, reduceCtorEq] at hb; done) | ((try simp only [bset0, reduceCtorEq] at hb); first | contradiction | skip)))
    | (refine CWx.e fun K hK => ?_; simp (maxSteps := 4000000) (disch := omega) only [dr0, dr1, dr2, dr3, dr4, if_true, if_false, Option.some.injEq, Nat.reduceEqDiff, Int.reduceToNat, Nat.reduceSub, Nat.reduceAdd, Nat.reduceMul, Nat.reduceLT, Nat.reduceLeDiff, reduceCtorEq, ↓reduceIte, catT, enc0, enc1, if_pos, if_neg])
    | refine CWx.seq ?_
    | refine CWx.skip ?_
    | refine CWx.exit ?_
    | (refine CWx.ret fun al hal => finK_ext hal (finK_pure (.inr rfl) (by simp only [resRV, Am.get, Nat.reduceEqDiff, ↓reduceIte]; exact rfl) ?_ ?_); (focus (first | ((simp only [tupAV, sgn]; congr 1; split <;> first | omega | (split <;> omega)); done) | (rfl; done) | ((simp only [tupAV]; congr <;> omega); done) | (simp [tupAV, *]; done))); (focus (first | rfl | (simp [AV.allR, allRL, allRL_ix]; done))))
theorem c72 {p a b : Pt} (hp : okP p = true) (ha : okP a = true) (hb' : okP b = true) : CallsF Try.prog 72 [pt p, pt a, pt b] [] (.bool (betw p a b)) [] := by
  refine callsF_cwx hm hf72 (by simp [cf72]) ?_
  simp only [cf72, argsAl]
  repeat' first
    | (refine hK _ _ _ (by first | exact fun h => Bool.noConfusion h | exact fun _ => rfl) ?_; clear hK K)
    | (refine CWx.r fun K hK => ?_; simp (maxSteps := 4000000) (disch := omega) only [dr0, dr1, dr2, dr3, dr4, if_true, if_false, Option.some.injEq, Nat.reduceEqDiff, Int.reduceToNat, Nat.reduceSub, Nat.reduceAdd, Nat.reduceMul, Nat.reduceLT, Nat.reduceLeDiff, reduceCtorEq, ↓reduceIte, catT, enc0, enc1, if_pos, if_neg])
    | refine CWx.go ?_
    | (apply RCx.view (fid := 33) (caps := []) rfl rfl; (focus ((simp only [evsA, evA_t, evA_c, Am.get, Nat.reduceEqDiff, ↓reduceIte, List.nil_append, List.cons_append, List.append_nil]; repeat' first | exact viewArgs_nil | apply viewArgs_cons | exact viewG_flat (flat_pts _ _) _ | exact viewG_flat (flat_ixV _ _) _ | exact viewG_flat (flat_sv _ _) _ | exact viewG_ixT rfl (by assumption) (by omega) | exact viewG_ptsL rfl (by first | omega | (simp; done) | (simp; omega)) | exact viewG_ix rfl (by first | omega | (simp; omega)) | exact viewG_flat rfl _; done))); (focus (refine c33 ha hb' hp <;> first | omega | assumption)); (focus rfl); simp (maxSteps := 4000000) (disch := omega) only [dr0, dr1, dr2, dr3, dr4, if_true, if_false, Option.some.injEq, Nat.reduceEqDiff, Int.reduceToNat, Nat.reduceSub, Nat.reduceAdd, Nat.reduceMul, Nat.reduceLT, Nat.reduceLeDiff, reduceCtorEq, ↓reduceIte, catT, enc0, enc1, if_pos, if_neg])
    | (apply RCx.view (fid := 75) (caps := []) rfl rfl; (focus ((simp only [evsA, evA_t, evA_c, Am.get, Nat.reduceEqDiff, ↓reduceIte, List.nil_append, List.cons_append, List.append_nil]; repeat' first | exact viewArgs_nil | apply viewArgs_cons | exact viewG_flat (flat_pts _ _) _ | exact viewG_flat (flat_ixV _ _) _ | exact viewG_flat (flat_sv _ _) _ | exact viewG_ixT rfl (by assumption) (by omega) | exact viewG_ptsL rfl (by first | omega | (simp; done) | (simp; omega)) | exact viewG_ix rfl (by first | omega | (simp; omega)) | exact viewG_flat rfl _; done))); (focus (refine c75 ha hp <;> first | omega | assumption)); (focus rfl); simp (maxSteps := 4000000) (disch := omega) only [dr0, dr1, dr2, dr3, dr4, if_true, if_false, Option.some.injEq, Nat.reduceEqDiff, Int.reduceToNat, Nat.reduceSub, Nat.reduceAdd, Nat.reduceMul, Nat.reduceLT, Nat.reduceLeDiff, reduceCtorEq, ↓reduceIte, catT, enc0, enc1, if_pos, if_neg])
    | (apply RCx.view (fid := 75) (caps := []) rfl rfl; (focus ((simp only [evsA, evA_t, evA_c, Am.get, Nat.reduceEqDiff, ↓reduceIte, List.nil_append, List.cons_append, List.append_nil]; repeat' first | exact viewArgs_nil | apply viewArgs_cons | exact viewG_flat (flat_pts _ _) _ | exact viewG_flat (flat_ixV _ _) _ | exact viewG_flat (flat_sv _ _) _ | exact viewG_ixT rfl (by assumption) (by omega) | exact viewG_ptsL rfl (by first | omega | (simp; done) | (simp; omega)) | exact viewG_ix rfl (by first | omega | (simp; omega)) | exact viewG_flat rfl _; done))); (focus (refine c75 hb' hp <;> first | omega | assumption)); (focus rfl); simp (maxSteps := 4000000) (disch := omega) only [dr0, dr1, dr2, dr3, dr4, if_true, if_false, Option.some.injEq, Nat.reduceEqDiff, Int.reduceToNat, Nat.reduceSub, Nat.reduceAdd, Nat.reduceMul, Nat.reduceLT, Nat.reduceLeDiff, reduceCtorEq, ↓reduceIte, catT, enc0, enc1, if_pos, if_neg])
    | (apply RCx.view (fid := 26) (caps := []) rfl rfl; (focus ((simp only [evsA, evA_t, evA_c, Am.get, Nat.reduceEqDiff, ↓reduceIte, List.nil_append, List.cons_append, List.append_nil]; repeat' first | exact viewArgs_nil | apply viewArgs_cons | exact viewG_flat (flat_pts _ _) _ | exact viewG_flat (flat_ixV _ _) _ | exact viewG_flat (flat_sv _ _) _ | exact viewG_ixT rfl (by assumption) (by omega) | exact viewG_ptsL rfl (by first | omega | (simp; done) | (simp; omega)) | exact viewG_ix rfl (by first | omega | (simp; omega)) | exact viewG_flat rfl _; done))); (focus (refine c26 (sub_small ha hp) (sub_small hb' hp) <;> first | omega | assumption)); (focus rfl); simp (maxSteps := 4000000) (disch := omega) only [dr0, dr1, dr2, dr3, dr4, if_true, if_false, Option.some.injEq, Nat.reduceEqDiff, Int.reduceToNat, Nat.reduceSub, Nat.reduceAdd, Nat.reduceMul, Nat.reduceLT, Nat.reduceLeDiff, reduceCtorEq, ↓reduceIte, catT, enc0, enc1, if_pos, if_neg])
    | (refine gX_split (fun hb => ?_) (fun hb => ?_) <;> (try simp only [hb]) <;> (try simp only [bset0, reduceCtorEq] at hb) <;> simp (maxSteps := 4000000) (disch := omega) only [dr0, dr1, dr2, dr3, dr4, if_true, if_false, Option.some.injEq, Nat.reduceEqDiff, Int.reduceToNat, Nat.reduceSub, Nat.reduceAdd, Nat.reduceMul, Nat.reduceLT, Nat.reduceLeDiff, reduceCtorEq, ↓reduceIte, catT, enc0, enc1, if_pos, if_neg])
    | (refine CWx.br rfl (fun hb => ?_) (fun hb => ?_) <;> first | exact Bool.noConfusion hb | (first | (simp only [bset0, reduceCtorEq] at hb; done) | ((try simp only [bset0, reduceCtorEq] at hb); first | contradiction | skip)))
    | (refine CWx.e fun K hK => ?_; simp (maxSteps := 4000000) (disch := omega) only [dr0, dr1, dr2, dr3, dr4, if_true, if_false, Option.some.injEq, Nat.reduceEqDiff, Int.reduceToNat, Nat.reduceSub, Nat.reduceAdd, Nat.reduceMul, Nat.reduceLT, Nat.reduceLeDiff, reduceCtorEq, ↓reduceIte, catT, enc0, enc1, if_pos, if_neg])
    | refine CWx.seq ?_
    | refine CWx.skip ?_
    | refine CWx.exit ?_
    | (refine CWx.ret fun al hal => finK_ext hal (finK_pure (.inr rfl) (by simp only [resRV, Am.get, Nat.reduceEqDiff, ↓reduceIte]; exact rfl) ?_ ?_); (focus (first | (simp only [tupAV]; congr 1; rw [Bool.eq_iff_iff]; simp only [betw, Bool.and_eq_true, Bool.or_eq_true, decide_eq_true_eq, Bool.false_eq_true, ne_eq, true_iff, false_iff, iff_true, iff_false, Bool.not_eq_true, decide_eq_false_iff_not, not_true_eq_false, beq_iff_eq, bne_iff_ne]; omega; done) | (rfl; done) | ((simp only [tupAV]; congr <;> omega); done) | (simp [tupAV, *]; done))); (focus (first | rfl | (simp [AV.allR, allRL, allRL_ix]; done))))
theorem sgn_pos (n : Int) : (0 ≤ sgn n ↔ 0 ≤ n) ∧ (sgn n ≤ 0 ↔ n ≤ 0) := by
  unfold sgn; split <;> first | omega | (split <;> omega)
theorem c73 {p a b c : Pt} (hp : okP p = true) (ha : okP a = true) (hb' : okP b = true) (hc : okP c = true) : CallsF Try.prog 73 [pt p, pt a, pt b, pt c] [] (.bool (inTri p a b c)) [] := by
  have e1 := sgn_pos (left a b p)
  have e2 := sgn_pos (left b c p)
  have e3 := sgn_pos (left c a p)
  refine callsF_cwx hm hf73 (by simp [cf73]) ?_
  simp only [cf73, argsAl]
  repeat' first
    | (refine hK _ _ _ (by first | exact fun h => Bool.noConfusion h | exact fun _ => rfl) ?_; clear hK K)
    | (refine CWx.r fun K hK => ?_; simp (maxSteps := 4000000) (disch := omega) only [dr0, dr1, dr2, dr3, dr4, if_true, if_false, Option.some.injEq, Nat.reduceEqDiff, Int.reduceToNat, Nat.reduceSub, Nat.reduceAdd, Nat.reduceMul, Nat.reduceLT, Nat.reduceLeDiff, reduceCtorEq, ↓reduceIte, catT, enc0, enc1, if_pos, if_neg])
    | refine CWx.go ?_
    | (apply RCx.view (fid := 33) (caps := []) rfl rfl; (focus ((simp only [evsA, evA_t, evA_c, Am.get, Nat.reduceEqDiff, ↓reduceIte, List.nil_append, List.cons_append, List.append_nil]; repeat' first | exact viewArgs_nil | apply viewArgs_cons | exact viewG_flat (flat_pts _ _) _ | exact viewG_flat (flat_ixV _ _) _ | exact viewG_flat (flat_sv _ _) _ | exact viewG_ixT rfl (by assumption) (by omega) | exact viewG_ptsL rfl (by first | omega | (simp; done) | (simp; omega)) | exact viewG_ix rfl (by first | omega | (simp; omega)) | exact viewG_flat rfl _; done))); (focus (refine c33 ha hb' hp <;> first | omega | assumption)); (focus rfl); simp (maxSteps := 4000000) (disch := omega) only [dr0, dr1, dr2, dr3, dr4, if_true, if_false, Option.some.injEq, Nat.reduceEqDiff, Int.reduceToNat, Nat.reduceSub, Nat.reduceAdd, Nat.reduceMul, Nat.reduceLT, Nat.reduceLeDiff, reduceCtorEq, ↓reduceIte, catT, enc0, enc1, if_pos, if_neg])
    | (apply RCx.view (fid := 33) (caps := []) rfl rfl; (focus ((simp only [evsA, evA_t, evA_c, Am.get, Nat.reduceEqDiff, ↓reduceIte, List.nil_append, List.cons_append, List.append_nil]; repeat' first | exact viewArgs_nil | apply viewArgs_cons | exact viewG_flat (flat_pts _ _) _ | exact viewG_flat (flat_ixV _ _) _ | exact viewG_flat (flat_sv _ _) _ | exact viewG_ixT rfl (by assumption) (by omega) | exact viewG_ptsL rfl (by first | omega | (simp; done) | (simp; omega)) | exact viewG_ix rfl (by first | omega | (simp; omega)) | exact viewG_flat rfl _; done))); (focus (refine c33 hb' hc hp <;> first | omega | assumption)); (focus rfl); simp (maxSteps := 4000000) (disch := omega) only [dr0, dr1, dr2, dr3, dr4, if_true, if_false, Option.some.injEq, Nat.reduceEqDiff, Int.reduceToNat, Nat.reduceSub, Nat.reduceAdd, Nat.reduceMul, Nat.reduceLT, Nat.reduceLeDiff, reduceCtorEq, ↓reduceIte, catT, enc0, enc1, if_pos, if_neg])
    | (apply RCx.view (fid := 33) (caps := []) rfl rfl; (focus ((simp only [evsA, evA_t, evA_c, Am.get, Nat.reduceEqDiff, ↓reduceIte, List.nil_append, List.cons_append, List.append_nil]; repeat' first | exact viewArgs_nil | apply viewArgs_cons | exact viewG_flat (flat_pts _ _) _ | exact viewG_flat (flat_ixV _ _) _ | exact viewG_flat (flat_sv _ _) _ | exact viewG_ixT rfl (by assumption) (by omega) | exact viewG_ptsL rfl (by first | omega | (simp; done) | (simp; omega)) | exact viewG_ix rfl (by first | omega | (simp; omega)) | exact viewG_flat rfl _; done))); (focus (refine c33 hc ha hp <;> first | omega | assumption)); (focus rfl); simp (maxSteps := 4000000) (disch := omega) only [dr0, dr1, dr2, dr3, dr4, if_true, if_false, Option.some.injEq, Nat.reduceEqDiff, Int.reduceToNat, Nat.reduceSub, Nat.reduceAdd, Nat.reduceMul, Nat.reduceLT, Nat.reduceLeDiff, reduceCtorEq, ↓reduceIte, catT, enc0, enc1, if_pos, if_neg])
    | (apply RCx.view (fid := 33) (caps := []) rfl rfl; (focus ((simp only [evsA, evA_t, evA_c, Am.get, Nat.reduceEqDiff, ↓reduceIte, List.nil_append, List.cons_append, List.append_nil]; repeat' first | exact viewArgs_nil | apply viewArgs_cons | exact viewG_flat (flat_pts _ _) _ | exact viewG_flat (flat_ixV _ _) _ | exact viewG_flat (flat_sv _ _) _ | exact viewG_ixT rfl (by assumption) (by omega) | exact viewG_ptsL rfl (by first | omega | (simp; done) | (simp; omega)) | exact viewG_ix rfl (by first | omega | (simp; omega)) | exact viewG_flat rfl _; done))); (focus (refine c33 ha hb' hc <;> first | omega | assumption)); (focus rfl); simp (maxSteps := 4000000) (disch := omega) only [dr0, dr1, dr2, dr3, dr4, if_true, if_false, Option.some.injEq, Nat.reduceEqDiff, Int.reduceToNat, Nat.reduceSub, Nat.reduceAdd, Nat.reduceMul, Nat.reduceLT, Nat.reduceLeDiff, reduceCtorEq, ↓reduceIte, catT, enc0, enc1, if_pos, if_neg])
    | (apply RCx.view (fid := 32) (caps := []) rfl rfl; (focus ((simp only [evsA, evA_t, evA_c, Am.get, Nat.reduceEqDiff, ↓reduceIte, List.nil_append, List.cons_append, List.append_nil]; repeat' first | exact viewArgs_nil | apply viewArgs_cons | exact viewG_flat (flat_pts _ _) _ | exact viewG_flat (flat_ixV _ _) _ | exact viewG_flat (flat_sv _ _) _ | exact viewG_ixT rfl (by assumption) (by omega) | exact viewG_ptsL rfl (by first | omega | (simp; done) | (simp; omega)) | exact viewG_ix rfl (by first | omega | (simp; omega)) | exact viewG_flat rfl _; done))); (focus (refine c32 _ <;> first | omega | assumption)); (focus rfl); simp (maxSteps := 4000000) (disch := omega) only [dr0, dr1, dr2, dr3, dr4, if_true, if_false, Option.some.injEq, Nat.reduceEqDiff, Int.reduceToNat, Nat.reduceSub, Nat.reduceAdd, Nat.reduceMul, Nat.reduceLT, Nat.reduceLeDiff, reduceCtorEq, ↓reduceIte, catT, enc0, enc1, if_pos, if_neg])
    | (refine gX_split (fun hb => ?_) (fun hb => ?_) <;> (try simp only [hb]) <;> (try simp only [bset0, reduceCtorEq] at hb) <;> simp (maxSteps := 4000000) (disch := omega) only [dr0, dr1, dr2, dr3, dr4, if_true, if_false, Option.some.injEq, Nat.reduceEqDiff, Int.reduceToNat, Nat.reduceSub, Nat.reduceAdd, Nat.reduceMul, Nat.reduceLT, Nat.reduceLeDiff, reduceCtorEq, ↓reduceIte, catT, enc0, enc1, if_pos, if_neg])
    | (refine CWx.br rfl (fun hb => ?_) (fun hb => ?_) <;> first | exact Bool.noConfusion hb | (first | (simp only [bset0, reduceCtorEq] at hb; done) | ((try simp only [bset0, reduceCtorEq] at hb); first | contradiction | skip)))
    | (refine CWx.e fun K hK => ?_; simp (maxSteps := 4000000) (disch := omega) only [dr0, dr1, dr2, dr3, dr4, if_true, if_false, Option.some.injEq, Nat.reduceEqDiff, Int.reduceToNat, Nat.reduceSub, Nat.reduceAdd, Nat.reduceMul, Nat.reduceLT, Nat.reduceLeDiff, reduceCtorEq, ↓reduceIte, catT, enc0, enc1, if_pos, if_neg])
    | refine CWx.seq ?_
    | refine CWx.skip ?_
    | refine CWx.exit ?_
    | (refine CWx.ret fun al hal => finK_ext hal (finK_pure (.inr rfl) (by simp only [resRV, Am.get, Nat.reduceEqDiff, ↓reduceIte]; exact rfl) ?_ ?_); (focus (first | (simp only [tupAV]; congr 1; rw [Bool.eq_iff_iff]; simp only [inTri, Bool.and_eq_true, Bool.or_eq_true, decide_eq_true_eq, Bool.false_eq_true, ne_eq, true_iff, false_iff, iff_true, iff_false, Bool.not_eq_true, decide_eq_false_iff_not, not_true_eq_false, beq_iff_eq, bne_iff_ne]; omega; done) | (rfl; done) | ((simp only [tupAV]; congr <;> omega); done) | (simp [tupAV, *]; done))); (focus (first | rfl | (simp [AV.allR, allRL, allRL_ix]; done))))
def inB (l : List Pt) (p : Pt) : Bool := (List.range l.length).any fun i => decide (P l i = p) || (List.range i).any fun j => betw p (P l i) (P l j) || (List.range j).any fun k => inTri p (P l i) (P l j) (P l k)
def N1 (l : List Pt) (p : Pt) (x y : Nat) : Prop := betw p (P l x) (P l y) = false ∧ ∀ z, z < y → inTri p (P l x) (P l y) (P l z) = false
def N0 (l : List Pt) (p : Pt) (x : Nat) : Prop := ¬ P l x = p ∧ ∀ y, y < x → N1 l p x y
theorem inB_iff (l : List Pt) (p : Pt) : inB l p = true ↔ ∃ i, i < l.length ∧ (P l i = p ∨ ∃ j, j < i ∧ (betw p (P l i) (P l j) = true ∨ ∃ k, k < j ∧ inTri p (P l i) (P l j) (P l k) = true)) := by
  simp only [inB, List.any_eq_true, List.mem_range, Bool.or_eq_true, decide_eq_true_eq]
theorem inB_f {l : List Pt} {p : Pt} (h : ∀ x, x < l.length → N0 l p x) : inB l p = false := by
  cases e : inB l p with
  | false => rfl
  | true =>
    obtain ⟨i, hi, h1 | ⟨j, hj, h1 | ⟨k, hk, h1⟩⟩⟩ := (inB_iff l p).1 e
    · exact absurd h1 (h i hi).1
    · rw [((h i hi).2 j hj).1] at h1; cases h1
    · rw [((h i hi).2 j hj).2 k hk] at h1; cases h1
theorem c30 (l : List Pt) (p : Pt) (hn : l.length < 4611686018427387904) (qa : ∀ k, k < l.length → okP (P l k) = true) (hp : okP p = true) : CallsF Try.prog 30 [pts l, pt p] [] (.bool (inB l p)) [] := by
  refine callsF_cwx hm hf30 (by simp [cf30]) ?_
  simp only [cf30, argsAl]
  repeat' first
    | (refine hK _ _ _ (by first | exact fun h => Bool.noConfusion h | exact fun _ => rfl) ?_; clear hK K)
    | (refine CWx.r fun K hK => ?_; simp (maxSteps := 4000000) (disch := omega) only [dr0, dr1, dr2, dr3, dr4, if_true, if_false, Option.some.injEq, Nat.reduceEqDiff, Int.reduceToNat, Nat.reduceSub, Nat.reduceAdd, Nat.reduceMul, Nat.reduceLT, Nat.reduceLeDiff, reduceCtorEq, ↓reduceIte, catT, enc0, enc1, if_pos, if_neg])
    | refine CWx.go ?_
    | (apply RCx.view (fid := 72) (caps := []) rfl rfl; (focus ((simp only [evsA, evA_t, evA_c, Am.get, Nat.reduceEqDiff, ↓reduceIte, List.nil_append, List.cons_append, List.append_nil]; repeat' first | exact viewArgs_nil | apply viewArgs_cons | exact viewG_flat (flat_pts _ _) _ | exact viewG_flat (flat_ixV _ _) _ | exact viewG_flat (flat_sv _ _) _ | exact viewG_ixT rfl (by assumption) (by omega) | exact viewG_ptsL rfl (by first | omega | (simp; done) | (simp; omega)) | exact viewG_ix rfl (by first | omega | (simp; omega)) | exact viewG_flat rfl _; done))); (focus (refine c72 hp (qa _ ?_) (qa _ ?_) <;> first | omega | assumption)); (focus rfl); simp (maxSteps := 4000000) (disch := omega) only [dr0, dr1, dr2, dr3, dr4, if_true, if_false, Option.some.injEq, Nat.reduceEqDiff, Int.reduceToNat, Nat.reduceSub, Nat.reduceAdd, Nat.reduceMul, Nat.reduceLT, Nat.reduceLeDiff, reduceCtorEq, ↓reduceIte, catT, enc0, enc1, if_pos, if_neg])
    | (apply RCx.view (fid := 73) (caps := []) rfl rfl; (focus ((simp only [evsA, evA_t, evA_c, Am.get, Nat.reduceEqDiff, ↓reduceIte, List.nil_append, List.cons_append, List.append_nil]; repeat' first | exact viewArgs_nil | apply viewArgs_cons | exact viewG_flat (flat_pts _ _) _ | exact viewG_flat (flat_ixV _ _) _ | exact viewG_flat (flat_sv _ _) _ | exact viewG_ixT rfl (by assumption) (by omega) | exact viewG_ptsL rfl (by first | omega | (simp; done) | (simp; omega)) | exact viewG_ix rfl (by first | omega | (simp; omega)) | exact viewG_flat rfl _; done))); (focus (refine c73 hp (qa _ ?_) (qa _ ?_) (qa _ ?_) <;> first | omega | assumption)); (focus rfl); simp (maxSteps := 4000000) (disch := omega) only [dr0, dr1, dr2, dr3, dr4, if_true, if_false, Option.some.injEq, Nat.reduceEqDiff, Int.reduceToNat, Nat.reduceSub, Nat.reduceAdd, Nat.reduceMul, Nat.reduceLT, Nat.reduceLeDiff, reduceCtorEq, ↓reduceIte, catT, enc0, enc1, if_pos, if_neg])
    | (refine gX_split (fun hb => ?_) (fun hb => ?_) <;> (try simp only [hb]) <;> (try simp only [bset0, reduceCtorEq] at hb) <;> simp (maxSteps := 4000000) (disch := omega) only [dr0, dr1, dr2, dr3, dr4, if_true, if_false, Option.some.injEq, Nat.reduceEqDiff, Int.reduceToNat, Nat.reduceSub, Nat.reduceAdd, Nat.reduceMul, Nat.reduceLT, Nat.reduceLeDiff, reduceCtorEq, ↓reduceIte, catT, enc0, enc1, if_pos, if_neg])
    | (refine CWx.br rfl (fun hb => ?_) (fun hb => ?_) <;> first | exact Bool.noConfusion hb | (first | (simp only [bset0, reduceCtorEq] at hb; done) | ((try simp only [bset0, reduceCtorEq] at hb); first | contradiction | skip)))
    | (refine CWx.e fun K hK => ?_; simp (maxSteps := 4000000) (disch := omega) only [dr0, dr1, dr2, dr3, dr4, if_true, if_false, Option.some.injEq, Nat.reduceEqDiff, Int.reduceToNat, Nat.reduceSub, Nat.reduceAdd, Nat.reduceMul, Nat.reduceLT, Nat.reduceLeDiff, reduceCtorEq, ↓reduceIte, catT, enc0, enc1, if_pos, if_neg])
    | (refine CWx.block (id := 0) ?_; refine CWx.loopK (ι := Nat) [0, 3] (fun i => l.length - i) (fun i => [(5, .int .i64 (i : Int))]) (fun i => [.row false 0 false 2 [pt p]]) (fun i => i ≤ l.length ∧ ∀ x, x < i → N0 l p x) (fun i => by simp only [keepA, Am.get, List.cons_append, List.nil_append, Nat.reduceEqDiff, ↓reduceIte]; exact rfl) (0) ?_ ?_ (fun i hi => ?_); (focus ((try dsimp only) <;> (first | trivial | omega | (refine ⟨?_, ?_⟩ <;> first | omega | trivial | simp_all) | simp_all); done)); (focus (refine Fgt.mk' 1 (by simp) ?_ ?_ ?_ <;> simp [-List.map_take, -List.map_map, AV.isY, ltL_append, ix_nil, keepB, Am.get, AV.lt, ltL, lt_pts, lt_pt, lt_ixV, ltL_ix, ltL_pt, Blk.lt, ltB]; done)); have Hi := hi; (skip))
    | (refine CWx.block (id := 2) ?_; refine CWx.loopK (ι := Nat) [0, 3, 5] (fun j => i - j) (fun j => [(6, .int .i64 (j : Int))]) (fun j => [.row false 0 false 2 [pt p]]) (fun j => j ≤ i ∧ ∀ y, y < j → N1 l p i y) (fun i => by simp only [keepA, Am.get, List.cons_append, List.nil_append, Nat.reduceEqDiff, ↓reduceIte]; exact rfl) (0) ?_ ?_ (fun j hi => ?_); (focus ((try dsimp only) <;> (first | trivial | omega | (refine ⟨?_, ?_⟩ <;> first | omega | trivial | simp_all) | simp_all); done)); (focus (refine Fgt.mk' 1 (by simp) ?_ ?_ ?_ <;> simp [-List.map_take, -List.map_map, AV.isY, ltL_append, ix_nil, keepB, Am.get, AV.lt, ltL, lt_pts, lt_pt, lt_ixV, ltL_ix, ltL_pt, Blk.lt, ltB]; done)); have Hj := hi; (skip))
    | (refine CWx.block (id := 4) ?_; refine CWx.loopK (ι := Nat) [0, 3, 5, 6] (fun k => j - k) (fun k => [(7, .int .i64 (k : Int))]) (fun k => [.row false 0 false 2 [pt p]]) (fun k => k ≤ j ∧ ∀ z, z < k → inTri p (P l i) (P l j) (P l z) = false) (fun i => by simp only [keepA, Am.get, List.cons_append, List.nil_append, Nat.reduceEqDiff, ↓reduceIte]; exact rfl) (0) ?_ ?_ (fun k hi => ?_); (focus ((try dsimp only) <;> (first | trivial | omega | (refine ⟨?_, ?_⟩ <;> first | omega | trivial | simp_all) | simp_all); done)); (focus (refine Fgt.mk' 1 (by simp) ?_ ?_ ?_ <;> simp [-List.map_take, -List.map_map, AV.isY, ltL_append, ix_nil, keepB, Am.get, AV.lt, ltL, lt_pts, lt_pt, lt_ixV, ltL_ix, ltL_pt, Blk.lt, ltB]; done)); have Hk := hi; (skip))
    | refine CWx.seq ?_
    | refine CWx.block (id := 1) ?_
    | refine CWx.block (id := 3) ?_
    | refine CWx.block (id := 5) ?_
    | refine CWx.skip ?_
    | (refine CWx.exit (id := 4) ?_; (have ek : k = j := by omega))
    | refine CWx.exit ?_
    | (refine CWx.ret fun al hal => finK_ext hal (finK_pure (.inr rfl) (by simp only [resRV, Am.get, Nat.reduceEqDiff, ↓reduceIte]; exact rfl) ?_ ?_); (focus (first | ((simp only [tupAV]; congr 1; symm; rw [inB_iff]; exact ⟨i, by omega, .inl (by assumption)⟩); done) | ((simp only [tupAV]; congr 1; symm; rw [inB_iff]; exact ⟨i, by omega, .inr ⟨j, by omega, .inl (by assumption)⟩⟩); done) | ((simp only [tupAV]; congr 1; symm; rw [inB_iff]; exact ⟨i, by omega, .inr ⟨j, by omega, .inr ⟨k, by omega, by assumption⟩⟩⟩); done) | ((rw [inB_f (fun x hx => hi.2 x (by omega))]; rfl); done) | (rfl; done) | ((simp only [tupAV]; congr <;> omega); done) | (simp [tupAV, *]; done))); (focus (first | rfl | (simp [AV.allR, allRL, allRL_ix]; done))))
    | (intro al hal; refine ⟨k + 1, ?_, ?_, Fgt.ofx hal ?_⟩; (focus (first | omega | (dsimp only; omega))); (focus (exact ⟨by omega, allUp hi.2 (by assumption)⟩; done)); (focus (refine Fgt.mk' 1 (by simp) ?_ ?_ ?_ <;> simp [-List.map_take, -List.map_map, AV.isY, ltL_append, ix_nil, keepB, Am.get, AV.lt, ltL, lt_pts, lt_pt, lt_ixV, ltL_ix, ltL_pt, Blk.lt, ltB]; done)))
    | (intro al hal; refine ⟨j + 1, ?_, ?_, Fgt.ofx hal ?_⟩; (focus (first | omega | (dsimp only; omega))); (focus (exact ⟨by omega, allUp Hj.2 ⟨by assumption, fun z hz => hi.2 z (by omega)⟩⟩; done)); (focus (refine Fgt.mk' 1 (by simp) ?_ ?_ ?_ <;> simp [-List.map_take, -List.map_map, AV.isY, ltL_append, ix_nil, keepB, Am.get, AV.lt, ltL, lt_pts, lt_pt, lt_ixV, ltL_ix, ltL_pt, Blk.lt, ltB]; done)))
    | (intro al hal; refine ⟨i + 1, ?_, ?_, Fgt.ofx hal ?_⟩; (focus (first | omega | (dsimp only; omega))); (focus (exact ⟨by omega, allUp Hi.2 ⟨by assumption, fun y hy => Hj.2 y (by omega)⟩⟩; done)); (focus (refine Fgt.mk' 1 (by simp) ?_ ?_ ?_ <;> simp [-List.map_take, -List.map_map, AV.isY, ltL_append, ix_nil, keepB, Am.get, AV.lt, ltL, lt_pts, lt_pt, lt_ixV, ltL_ix, ltL_pt, Blk.lt, ltB]; done)))
/-- The points that aren't this one. -/
def othI (l : List Pt) (i k : Nat) : List Pt := (l.take k).filter fun q => decide (q ≠ P l i)
theorem othI_zero (l : List Pt) (i : Nat) : othI l i 0 = [] := rfl
theorem othI_t (l : List Pt) (i k : Nat) (hk : k < l.length) (h : P l k ≠ P l i) : othI l i (k + 1) = othI l i k ++ [P l k] := by
  unfold othI; rw [take_succP l hk, List.filter_append]; simp [h]
theorem othI_f (l : List Pt) (i k : Nat) (hk : k < l.length) (h : P l k = P l i) : othI l i (k + 1) = othI l i k := by
  unfold othI; rw [take_succP l hk, List.filter_append]; simp [h]
theorem othI_len (l : List Pt) (i k : Nat) : (othI l i k).length ≤ l.length := by
  unfold othI; exact Nat.le_trans (List.length_filter_le _ _) (by rw [List.length_take]; omega)
/-- Is the point a vertex? -/
def vertexB (l : List Pt) (i : Nat) : Bool := decide (∀ k, k < i → P l k ≠ P l i) && !inB (othI l i l.length) (P l i)
theorem c89 (l : List Pt) (i : Nat) (hi0 : i < l.length) (hn : l.length < 100000) (oka : l.all okP = true) : CallsF Try.prog 89 [pts l, .int .i64 (i : Int)] [] (.bool (vertexB l i)) [] := by
  have qa := ok_P oka
  have hlen := othI_len l i
  have k30 := c30 (othI l i l.length) (P l i) (by have := hlen l.length; omega) (fun k hk => by
    have := P_mem hk
    exact List.all_eq_true.1 oka _ (List.mem_of_mem_take (List.mem_filter.1 this).1)) (qa i hi0)
  refine callsF_cwx hm hf89 (by simp [cf89]) ?_
  simp only [cf89, argsAl]
  repeat' first
    | (refine hK _ _ _ (by first | exact fun h => Bool.noConfusion h | exact fun _ => rfl) ?_; clear hK K)
    | (refine CWx.r fun K hK => ?_; simp (maxSteps := 4000000) (disch := omega) only [dr0, dr1, dr2, dr3, dr4, if_true, if_false, Option.some.injEq, Nat.reduceEqDiff, Int.reduceToNat, Nat.reduceSub, Nat.reduceAdd, Nat.reduceMul, Nat.reduceLT, Nat.reduceLeDiff, reduceCtorEq, ↓reduceIte, catT, enc0, enc1, if_pos, if_neg])
    | refine CWx.go ?_
    | (apply RCx.view (fid := 30) (caps := []) rfl rfl; (focus ((simp only [evsA, evA_t, evA_c, Am.get, Nat.reduceEqDiff, ↓reduceIte, List.nil_append, List.cons_append, List.append_nil]; repeat' first | exact viewArgs_nil | apply viewArgs_cons | exact viewG_flat (flat_pts _ _) _ | exact viewG_flat (flat_ixV _ _) _ | exact viewG_flat (flat_sv _ _) _ | exact viewG_ixT rfl (by assumption) (by omega) | exact viewG_ptsL rfl (by first | omega | (simp; done) | (simp; omega)) | exact viewG_ix rfl (by first | omega | (simp; omega)) | exact viewG_flat rfl _; done))); (focus (refine k30 <;> first | omega | assumption)); (focus rfl); simp (maxSteps := 4000000) (disch := omega) only [dr0, dr1, dr2, dr3, dr4, if_true, if_false, Option.some.injEq, Nat.reduceEqDiff, Int.reduceToNat, Nat.reduceSub, Nat.reduceAdd, Nat.reduceMul, Nat.reduceLT, Nat.reduceLeDiff, reduceCtorEq, ↓reduceIte, catT, enc0, enc1, if_pos, if_neg])
    | (refine gX_split (fun hb => ?_) (fun hb => ?_) <;> (try simp only [hb]) <;> (try simp only [bset0, reduceCtorEq] at hb) <;> simp (maxSteps := 4000000) (disch := omega) only [dr0, dr1, dr2, dr3, dr4, if_true, if_false, Option.some.injEq, Nat.reduceEqDiff, Int.reduceToNat, Nat.reduceSub, Nat.reduceAdd, Nat.reduceMul, Nat.reduceLT, Nat.reduceLeDiff, reduceCtorEq, ↓reduceIte, catT, enc0, enc1, if_pos, if_neg])
    | (refine CWx.br rfl (fun hb => ?_) (fun hb => ?_) <;> first | exact Bool.noConfusion hb | (first | (simp only [bset0, reduceCtorEq] at hb; done) | ((try simp only [bset0, reduceCtorEq] at hb); first | contradiction | skip)))
    | (refine CWx.e fun K hK => ?_; simp (maxSteps := 4000000) (disch := omega) only [dr0, dr1, dr2, dr3, dr4, if_true, if_false, Option.some.injEq, Nat.reduceEqDiff, Int.reduceToNat, Nat.reduceSub, Nat.reduceAdd, Nat.reduceMul, Nat.reduceLT, Nat.reduceLeDiff, reduceCtorEq, ↓reduceIte, catT, enc0, enc1, if_pos, if_neg])
    | (refine CWx.block (id := 0) ?_; refine CWx.loopK (ι := Nat × Nat) [0, 1] (fun q => l.length - q.1) (fun q => [(6, .int .i64 (q.1 : Int)), (5, .sl 0 q.2 0 (othI l i q.1).length)]) (fun q => [.row (othI l i q.1).isEmpty q.2 false 2 ((othI l i q.1).map pt)]) (fun q => q.1 ≤ l.length ∧ ∀ x, x < q.1 → x < i → P l x ≠ P l i) (fun i => by simp only [keepA, Am.get, List.cons_append, List.nil_append, Nat.reduceEqDiff, ↓reduceIte]; exact rfl) ((0, 0)) ?_ ?_ (fun q hi => ?_); (focus (exact ⟨Nat.zero_le _, fun x hx => by simp at hx⟩; done)); (focus (refine Fgt.mk' 1 (by simp) ?_ ?_ ?_ <;> simp [-List.map_take, -List.map_map, AV.isY, ltL_append, ix_nil, keepB, Am.get, AV.lt, ltL, lt_pts, lt_pt, lt_ixV, ltL_ix, ltL_pt, Blk.lt, ltB, othI_zero]; done)); have Hq := hi; ((have hlq := hlen q.1)))
    | refine CWx.seq ?_
    | refine CWx.block (id := 1) ?_
    | refine CWx.skip ?_
    | (refine CWx.exit (id := 0) ?_; (have eq : q.1 = l.length := by omega); simp only [eq])
    | refine CWx.exit ?_
    | (refine CWx.ret fun al hal => finK_ext hal (finK_pure (.inr rfl) (by simp only [resRV, Am.get, Nat.reduceEqDiff, ↓reduceIte]; exact rfl) ?_ ?_); (focus (first | ((simp only [tupAV, vertexB]; rw [decide_eq_false (fun h => h q.1 (by omega) (by assumption))]; rfl); done) | ((simp only [tupAV, vertexB]; rw [decide_eq_true (fun k hk => hi.2 k (by omega) hk)]; rfl); done) | (rfl; done) | ((simp only [tupAV]; congr <;> omega); done) | (simp [tupAV, *]; done))); (focus (first | rfl | (simp [AV.allR, allRL, allRL_ix]; done))))
    | (intro al hal; refine ⟨(q.1 + 1, q.2 + 1), ?_, ?_, Fgt.ofx hal ?_⟩; (focus (first | omega | (dsimp only; omega))); (focus (exact ⟨by dsimp only; omega, allUp hi.2 (fun _ => by assumption)⟩; done)); (focus (refine Fgt.mk' 1 (by simp) ?_ ?_ ?_ <;> simp [-List.map_take, -List.map_map, AV.isY, ltL_append, ix_nil, keepB, Am.get, AV.lt, ltL, lt_pts, lt_pt, lt_ixV, ltL_ix, ltL_pt, Blk.lt, ltB, othI_zero, othI_t l i q.1 (by omega) (by assumption)]; done)))
    | (intro al hal; refine ⟨(q.1 + 1, q.2), ?_, ?_, Fgt.ofx hal ?_⟩; (focus (first | omega | (dsimp only; omega))); (focus (exact ⟨by dsimp only; omega, allUp hi.2 (fun _ => by omega)⟩; done)); (focus (refine Fgt.mk' 1 (by simp) ?_ ?_ ?_ <;> simp [-List.map_take, -List.map_map, AV.isY, ltL_append, ix_nil, keepB, Am.get, AV.lt, ltL, lt_pts, lt_pt, lt_ixV, ltL_ix, ltL_pt, Blk.lt, ltB, othI_zero, othI_f l i q.1 (by omega) (by assumption)]; done)))
/-- Does the vertex j follow the vertex i? -/
def folB (l : List Pt) (V : List Nat) (i j : Nat) : Bool := decide ((∀ k, k < V.length → 0 ≤ left (P l i) (P l j) (P l (V.getD k 0))) ∧ i ≠ j)
theorem c90 (l : List Pt) (V : List Nat) (i j : Nat) (hi0 : i < l.length) (hj0 : j < l.length) (hV : ∀ k, k < V.length → V.getD k 0 < l.length) (hn : l.length < 100000) (hnV : V.length < 100000) (oka : l.all okP = true) :
    CallsF Try.prog 90 [pts l, ixV V, .int .i64 (i : Int), .int .i64 (j : Int)] [] (.bool (folB l V i j)) [] := by
  have qa := ok_P oka
  refine callsF_cwx hm hf90 (by simp [cf90]) ?_
  simp only [cf90, argsAl]
  repeat' first
    | (refine hK _ _ _ (by first | exact fun h => Bool.noConfusion h | exact fun _ => rfl) ?_; clear hK K)
    | (refine CWx.r fun K hK => ?_; simp (maxSteps := 4000000) (disch := omega) only [dr0, dr1, dr2, dr3, dr4, if_true, if_false, Option.some.injEq, Nat.reduceEqDiff, Int.reduceToNat, Nat.reduceSub, Nat.reduceAdd, Nat.reduceMul, Nat.reduceLT, Nat.reduceLeDiff, reduceCtorEq, ↓reduceIte, catT, enc0, enc1, if_pos, if_neg])
    | refine CWx.go ?_
    | (apply RCx.view (fid := 33) (caps := []) rfl rfl; (focus ((simp only [evsA, evA_t, evA_c, Am.get, Nat.reduceEqDiff, ↓reduceIte, List.nil_append, List.cons_append, List.append_nil]; repeat' first | exact viewArgs_nil | apply viewArgs_cons | exact viewG_flat (flat_pts _ _) _ | exact viewG_flat (flat_ixV _ _) _ | exact viewG_flat (flat_sv _ _) _ | exact viewG_ixT rfl (by assumption) (by omega) | exact viewG_ptsL rfl (by first | omega | (simp; done) | (simp; omega)) | exact viewG_ix rfl (by first | omega | (simp; omega)) | exact viewG_flat rfl _; done))); (focus (refine c33 (qa _ ?_) (qa _ ?_) (qa _ ?_) <;> first | omega | assumption)); (focus rfl); simp (maxSteps := 4000000) (disch := omega) only [dr0, dr1, dr2, dr3, dr4, if_true, if_false, Option.some.injEq, Nat.reduceEqDiff, Int.reduceToNat, Nat.reduceSub, Nat.reduceAdd, Nat.reduceMul, Nat.reduceLT, Nat.reduceLeDiff, reduceCtorEq, ↓reduceIte, catT, enc0, enc1, if_pos, if_neg])
    | (refine gX_split (fun hb => ?_) (fun hb => ?_) <;> (try simp only [hb]) <;> (try simp only [bset0, reduceCtorEq] at hb) <;> simp (maxSteps := 4000000) (disch := omega) only [dr0, dr1, dr2, dr3, dr4, if_true, if_false, Option.some.injEq, Nat.reduceEqDiff, Int.reduceToNat, Nat.reduceSub, Nat.reduceAdd, Nat.reduceMul, Nat.reduceLT, Nat.reduceLeDiff, reduceCtorEq, ↓reduceIte, catT, enc0, enc1, if_pos, if_neg])
    | (refine CWx.br rfl (fun hb => ?_) (fun hb => ?_) <;> first | exact Bool.noConfusion hb | (first | (simp only [bset0, reduceCtorEq] at hb; done) | ((try simp only [bset0, reduceCtorEq] at hb); first | contradiction | skip)))
    | (refine CWx.e fun K hK => ?_; simp (maxSteps := 4000000) (disch := omega) only [dr0, dr1, dr2, dr3, dr4, if_true, if_false, Option.some.injEq, Nat.reduceEqDiff, Int.reduceToNat, Nat.reduceSub, Nat.reduceAdd, Nat.reduceMul, Nat.reduceLT, Nat.reduceLeDiff, reduceCtorEq, ↓reduceIte, catT, enc0, enc1, if_pos, if_neg])
    | (refine CWx.block (id := 0) ?_; refine CWx.loopK (ι := Nat) [0, 1, 2, 3] (fun k => V.length - k) (fun k => [(9, .int .i64 (k : Int))]) (fun k => []) (fun k => k ≤ V.length ∧ ∀ x, x < k → 0 ≤ left (P l i) (P l j) (P l (V.getD x 0))) (fun i => by simp only [keepA, Am.get, List.cons_append, List.nil_append, Nat.reduceEqDiff, ↓reduceIte]; exact rfl) (0) ?_ ?_ (fun k hi => ?_); (focus ((try dsimp only) <;> (first | trivial | omega | (refine ⟨?_, ?_⟩ <;> first | omega | trivial | simp_all) | simp_all); done)); (focus (refine Fgt.mk' 0 (by simp) ?_ ?_ ?_ <;> simp [-List.map_take, -List.map_map, AV.isY, ltL_append, ix_nil, keepB, Am.get, AV.lt, ltL, lt_pts, lt_pt, lt_ixV, ltL_ix, ltL_pt, Blk.lt, ltB]; done)); have Hk := hi; ((have hVk := hV k)))
    | refine CWx.seq ?_
    | refine CWx.block (id := 1) ?_
    | refine CWx.skip ?_
    | refine CWx.exit ?_
    | (refine CWx.ret fun al hal => finK_ext hal (finK_pure (.inr rfl) (by simp only [resRV, Am.get, Nat.reduceEqDiff, ↓reduceIte]; exact rfl) ?_ ?_); (focus (first | ((simp only [tupAV, folB]; rw [decide_eq_false (fun h => absurd (h.1 k (by omega)) (by omega))]); done) | ((simp only [tupAV, folB]; congr 1; rw [Bool.eq_iff_iff]; simp only [bne_iff_ne, ne_eq, decide_eq_true_eq]; exact ⟨fun h => ⟨fun x hx => hi.2 x (by omega), by omega⟩, fun h => by omega⟩); done) | (rfl; done) | ((simp only [tupAV]; congr <;> omega); done) | (simp [tupAV, *]; done))); (focus (first | rfl | (simp [AV.allR, allRL, allRL_ix]; done))))
    | (intro al hal; refine ⟨k + 1, ?_, ?_, Fgt.ofx hal ?_⟩; (focus (first | omega | (dsimp only; omega))); (focus (exact ⟨by omega, allUp hi.2 (by omega)⟩; done)); (focus (refine Fgt.mk' 0 (by simp) ?_ ?_ ?_ <;> simp [-List.map_take, -List.map_map, AV.isY, ltL_append, ix_nil, keepB, Am.get, AV.lt, ltL, lt_pts, lt_pt, lt_ixV, ltL_ix, ltL_pt, Blk.lt, ltB]; done)))
end Go.Hull
end
section
set_option linter.unusedVariables false
namespace Go.Hull

theorem left_rot (a b c : Pt) : left b c a = left a b c := by simp only [left, turn, sub]; grind
theorem left_sw (a b c : Pt) : left a c b = - left a b c := by simp only [left, turn, sub]; grind
theorem inTri_rot (p a b c : Pt) : inTri p b c a = inTri p a b c := by
  rw [Bool.eq_iff_iff]
  have := left_rot a b c
  simp only [inTri, Bool.and_eq_true, Bool.or_eq_true, decide_eq_true_eq, ne_eq]; omega
theorem inTri_sw (p a b c : Pt) : inTri p b a c = inTri p a b c := by
  rw [Bool.eq_iff_iff]
  have e0 : left b a c = - left a b c := left_swap a b c
  have e1 : left b a p = - left a b p := left_swap a b p
  have e2 : left a c p = - left c a p := left_swap c a p
  have e3 : left c b p = - left b c p := left_swap b c p
  simp only [inTri, Bool.and_eq_true, Bool.or_eq_true, decide_eq_true_eq, ne_eq]; omega
theorem betw_sw (p a b : Pt) : betw p b a = betw p a b := by
  rw [Bool.eq_iff_iff]
  have e0 : left b a p = - left a b p := left_swap a b p
  have e1 : dot (sub b p) (sub a p) = dot (sub a p) (sub b p) := by simp only [dot, sub]; grind
  simp only [betw, Bool.and_eq_true, decide_eq_true_eq]; omega
theorem betw_same {p a : Pt} (h : betw p a a = true) : p = a := by
  simp only [betw, Bool.and_eq_true, decide_eq_true_eq] at h
  refine Classical.byContradiction fun hne => ?_
  have := dot_self_pos (u := sub a p) fun e => hne (sub_zero e).symm
  omega
theorem inTri_ne {p a b c : Pt} (h : inTri p a b c = true) : a ≠ b ∧ b ≠ c ∧ a ≠ c := by
  simp only [inTri, Bool.and_eq_true, decide_eq_true_eq, ne_eq] at h
  refine ⟨fun e => h.1 ?_, fun e => h.1 ?_, fun e => h.1 ?_⟩
  · rw [e, left_self1']
  · rw [e, left_self2]
  · rw [e, left_self1]
theorem mem_P {l : List Pt} {q : Pt} (h : q ∈ l) : ∃ i, i < l.length ∧ P l i = q := by
  obtain ⟨i, hi, e⟩ := List.getElem_of_mem h
  exact ⟨i, hi, by unfold P; rw [List.getD_eq_getElem?_getD, List.getElem?_eq_getElem hi]; exact e⟩
theorem inB_in (l : List Pt) (p : Pt) : inB l p = true ↔ InP (· ∈ l) p := by
  rw [inB_iff]
  constructor
  · rintro ⟨i, hi, h | ⟨j, hj, h | ⟨k, hk, h⟩⟩⟩
    · exact .inl (by rw [← h]; exact P_mem hi)
    · exact .inr (.inl ⟨_, _, P_mem hi, P_mem (by omega), h⟩)
    · exact .inr (.inr ⟨_, _, _, P_mem hi, P_mem (by omega), P_mem (by omega), h⟩)
  · have tri : ∀ i j k, i < l.length → j < i → k < j → inTri p (P l i) (P l j) (P l k) = true → ∃ i, i < l.length ∧ (P l i = p ∨ ∃ j, j < i ∧ (betw p (P l i) (P l j) = true ∨ ∃ k, k < j ∧ inTri p (P l i) (P l j) (P l k) = true)) := fun i j k hi hj hk h => ⟨i, hi, .inr ⟨j, hj, .inr ⟨k, hk, h⟩⟩⟩
    rintro (h | ⟨a, b, ha, hb, h⟩ | ⟨a, b, c, ha, hb, hc, h⟩)
    · obtain ⟨i, hi, e⟩ := mem_P h
      exact ⟨i, hi, .inl e⟩
    · obtain ⟨i, hi, rfl⟩ := mem_P ha
      obtain ⟨j, hj, rfl⟩ := mem_P hb
      rcases Nat.lt_trichotomy i j with hij | hij | hij
      · exact ⟨j, hj, .inr ⟨i, hij, .inl (by rw [betw_sw]; exact h)⟩⟩
      · subst hij; exact ⟨i, hi, .inl (betw_same h).symm⟩
      · exact ⟨i, hi, .inr ⟨j, hij, .inl h⟩⟩
    · obtain ⟨i, hi, rfl⟩ := mem_P ha
      obtain ⟨j, hj, rfl⟩ := mem_P hb
      obtain ⟨k, hk, rfl⟩ := mem_P hc
      obtain ⟨n1, n2, n3⟩ := inTri_ne h
      have e1 : i ≠ j := fun e => n1 (by rw [e])
      have e2 : j ≠ k := fun e => n2 (by rw [e])
      have e3 : i ≠ k := fun e => n3 (by rw [e])
      rcases Nat.lt_or_gt_of_ne e1 with h1 | h1 <;> rcases Nat.lt_or_gt_of_ne e2 with h2 | h2 <;> rcases Nat.lt_or_gt_of_ne e3 with h3 | h3
      · exact tri k j i hk h2 h1 (by rw [inTri_sw, inTri_rot]; exact h)
      · omega
      · exact tri j k i hj h2 h3 (by rw [inTri_rot]; exact h)
      · exact tri j i k hj h1 h3 (by rw [inTri_sw]; exact h)
      · exact tri k i j hk h3 h1 (by rw [inTri_rot, inTri_rot]; exact h)
      · exact tri i k j hi h3 h2 (by rw [inTri_sw, inTri_rot, inTri_rot]; exact h)
      · omega
      · exact tri i j k hi h1 h2 h
theorem othI_mem (l : List Pt) (i : Nat) (q : Pt) : q ∈ othI l i l.length ↔ q ∈ l ∧ q ≠ P l i := by
  unfold othI
  rw [List.take_of_length_le (Nat.le_refl _), List.mem_filter]; simp
theorem nd_of_map {α β : Type} {f : α → β} {v : List α} (h : (v.map f).Nodup) : v.Nodup := by
  rw [List.nodup_iff_pairwise_ne, List.pairwise_map] at h
  rw [List.nodup_iff_pairwise_ne]
  exact h.imp fun hab e => hab (by rw [e])
theorem mem_getD {v : List Nat} {x : Nat} (h : x ∈ v) : ∃ m, m < v.length ∧ v.getD m 0 = x := by
  obtain ⟨m, hm, e⟩ := List.getElem_of_mem h
  exact ⟨m, hm, by rw [List.getD_eq_getElem?_getD, List.getElem?_eq_getElem hm]; exact e⟩
theorem getD_mem {v : List Nat} {m : Nat} (h : m < v.length) : v.getD m 0 ∈ v := by
  rw [List.getD_eq_getElem?_getD, List.getElem?_eq_getElem h]; simp
theorem vertexB_iff {l : List Pt} {x : Nat} (hx : x < l.length) : vertexB l x = true ↔ x ∈ hullI l := by
  have V := hullV l (by omega)
  simp only [vertexB, Bool.and_eq_true, decide_eq_true_eq, Bool.not_eq_true']
  constructor
  · rintro ⟨h1, h2⟩
    refine Classical.byContradiction fun hno => ?_
    have nov : ∀ m, m < (hullI l).length → P l x ≠ P l ((hullI l).getD m 0) := fun m hm e => by
      have hmem := getD_mem hm
      rcases Nat.lt_trichotomy x ((hullI l).getD m 0) with h | h | h
      · exact V.fst _ hmem x h e
      · exact hno (by rw [h]; exact hmem)
      · exact h1 _ h e.symm
    have hin := in_of_inH V ((in_iff V (P l x)).1 (.inl (P_mem hx)))
    have := (inB_in (othI l x l.length) (P l x)).2 (hin.mono fun q hq => by
      rw [othI_mem]
      refine ⟨isV_mem V hq, ?_⟩
      obtain ⟨m, hm, rfl⟩ := hq
      rw [vx_lt hm]
      exact (nov m hm).symm)
    rw [this] at h2; cases h2
  · intro hmem
    refine ⟨fun k hk => V.fst x hmem k hk, ?_⟩
    obtain ⟨m, hm, e⟩ := mem_getD hmem
    cases hb : inB (othI l x l.length) (P l x) with
    | false => rfl
    | true =>
      have ev : vx l (hullI l) m = P l x := by rw [vx_lt hm, e]
      have := vertex_out V hm
      rw [ev] at this
      exact absurd (((inB_in _ _).1 hb).mono fun q hq => (othI_mem l x q).1 hq) this
/-- The reference's list of vertices. -/
def vtx (l : List Pt) : List Nat := (orderI l).filter (vertexB l)
theorem vtx_mem (l : List Pt) (x : Nat) : x ∈ vtx l ↔ x ∈ hullI l := by
  have hm : x ∈ orderI l ↔ x < l.length := by unfold orderI; rw [insort_mem, List.mem_range]
  unfold vtx
  rw [List.mem_filter, hm]
  constructor
  · rintro ⟨h1, h2⟩; exact (vertexB_iff h1).1 h2
  · intro h; exact ⟨hull_mem x h, (vertexB_iff (hull_mem x h)).2 h⟩
theorem vtx_nodup (l : List Pt) : (vtx l).Nodup := by
  have : (orderI l).Nodup := by
    rw [List.nodup_iff_pairwise_ne]
    exact (orderI_stable l).imp fun {a b} h e => by have := h (by rw [e]); omega
  exact this.filter _
theorem hull_nodup (l : List Pt) : (hullI l).Nodup := by
  by_cases hl : 0 < l.length
  · exact nd_of_map (hullV l hl).nd
  · obtain rfl : l = [] := List.eq_nil_of_length_eq_zero (by omega)
    rw [hullI_nil]; exact List.nodup_nil
theorem vtx_length (l : List Pt) : (vtx l).length = (hullI l).length :=
  Nat.le_antisymm (length_le_of_nodup _ _ (vtx_nodup l) fun a ha => (vtx_mem l a).1 ha) (length_le_of_nodup _ _ (hull_nodup l) fun a ha => (vtx_mem l a).2 ha)
theorem vtx_first {l : List Pt} (hl : 0 < l.length) : (vtx l).getD 0 0 = (hullI l).getD 0 0 := by
  have V := hullV l hl
  have T := V.T
  have h0 := getD_mem T.ne
  have hv := (vtx_mem l _).2 h0
  have hs : (vtx l).Pairwise (fun x y => before (P l y) (P l x) = false) := (orderI_sorted l).filter _
  cases hq : vtx l with
  | nil => rw [hq] at hv; cases hv
  | cons x xs =>
    rw [hq] at hv hs
    show x = _
    rcases List.mem_cons.1 hv with h | h
    · exact h.symm
    · have b1 := (List.pairwise_cons.1 hs).1 _ h
      have hx : x ∈ hullI l := (vtx_mem l x).1 (by rw [hq]; simp)
      have b2 := T.first _ (P_mem (hull_mem x hx))
      rcases before_false b2 with e | e
      · obtain ⟨m, hm, em⟩ := mem_getD hx
        rw [← em] at e
        have := V.inj T.ne hm e
        rw [← em, ← this]
      · rw [e] at b1; cases b1
theorem fol_iff {l : List Pt} (hl : 0 < l.length) {k : Nat} (hk : k + 1 < (hullI l).length) {x : Nat} (hx : x ∈ vtx l) : folB l (vtx l) ((hullI l).getD k 0) x = true ↔ x = (hullI l).getD (k + 1) 0 := by
  have V := hullV l hl
  have T := V.T
  obtain ⟨v, hv⟩ : ∃ v, v = hullI l := ⟨_, rfl⟩
  have hxv := (vtx_mem l x).1 hx
  have memV : ∀ j, j < (vtx l).length → (vtx l).getD j 0 ∈ hullI l := fun j hj => (vtx_mem l _).1 (getD_mem hj)
  rw [← hv] at V T hk hxv memV ⊢
  have e1 : vx l v (k + 1) = P l (v.getD (k + 1) 0) := vx_lt hk
  have e0 : vx l v k = P l (v.getD k 0) := vx_lt (by omega)
  simp only [folB, decide_eq_true_eq]
  constructor
  · rintro ⟨h1, h2⟩
    obtain ⟨m, hm, rfl⟩ := mem_getD hxv
    have hmk : m ≠ k := fun e => h2 (by rw [e])
    refine Classical.byContradiction fun hne => ?_
    have hm1 : m ≠ k + 1 := fun e => hne (by rw [e])
    have hn : 2 < v.length := by omega
    obtain ⟨j, hj, ej⟩ := mem_getD ((vtx_mem l (v.getD (k + 1) 0)).2 (by rw [← hv]; exact getD_mem hk))
    have g1 := h1 j hj
    rw [ej] at g1
    have em : vx l v m = P l (v.getD m 0) := vx_lt hm
    rw [← e0, ← e1, ← em] at g1
    have g2 := vx_big T hn k (vx_mem T m)
    have sw := left_sw (vx l v k) (vx l v (k + 1)) (vx l v m)
    have z : left (vx l v k) (vx l v (k + 1)) (vx l v m) = 0 := by omega
    have n01 : vx l v k ≠ vx l v (k + 1) := fun h => by have := vx_inj V (by omega) hk h; omega
    have n02 : vx l v k ≠ vx l v m := fun h => by have := vx_inj V (by omega) hm h; omega
    have n12 : vx l v (k + 1) ≠ vx l v m := fun h => by have := vx_inj V hk hm h; omega
    rcases col_mid z n01 n12 n02 with h | h | h
    · exact not_betw V hn k (vx_mem T _) (vx_mem T _) (Ne.symm n01) (Ne.symm n02) h
    · exact not_betw V hn (k + 1) (vx_mem T _) (vx_mem T _) n01 (Ne.symm n12) h
    · exact not_betw V hn m (vx_mem T _) (vx_mem T _) n02 n12 h
  · rintro rfl
    refine ⟨fun j hj => ?_, fun e => ?_⟩
    · have hp : P l ((vtx l).getD j 0) ∈ l := P_mem (T.mem _ (memV j hj))
      by_cases hn : 2 < v.length
      · rw [← e0, ← e1]; exact vx_big T hn k hp
      · have h22 : v.length = 2 := by omega
        obtain rfl : k = 0 := by omega
        have := T.two h22 0 (by omega) _ hp
        rw [h22] at this
        exact Int.le_of_eq this.symm
    · have := V.inj (i := k) (k := k + 1) (by omega) hk (by rw [e])
      omega
end Go.Hull
end
section
set_option linter.unusedSimpArgs false
set_option linter.unusedVariables false
set_option maxHeartbeats 8000000
set_option maxRecDepth 100000
namespace Go.Hull
open Go Go.Am Go.Proofs

/-- The first i numbers, sorted. -/
def srt (l : List Pt) (i : Nat) : List Nat := ((List.range i).foldl (fun r x => insR (lessB l) x r) []).reverse
theorem srt_zero (l : List Pt) : srt l 0 = [] := rfl
theorem srt_len (l : List Pt) (i : Nat) : (srt l i).length = i := by
  induction i with
  | zero => rfl
  | succ i ih =>
    unfold srt at ih ⊢
    rw [List.range_succ, List.foldl_append, List.length_reverse]
    simp only [List.foldl_cons, List.foldl_nil, insR_length]
    rw [List.length_reverse] at ih
    omega
theorem srt_succ (l : List Pt) (i : Nat) : srt l (i + 1) = inner (lessB l) i (srt l i ++ [i]) := by
  have hl := srt_len l i
  unfold srt at hl ⊢
  rw [List.length_reverse] at hl
  have := inner_insR (lessB l) ((List.range i).foldl (fun r x => insR (lessB l) x r) []) i []
  rw [hl] at this
  rw [this, List.range_succ, List.foldl_append]
  simp
theorem ixgS (v : List Nat) (j n k : Nat) (h : k < v.length) : (ix (v.set j n))[k]? = some (.int .i64 (((v.set j n).getD k 0 : Nat) : Int)) := ix_get _ (by simpa using h)
theorem srt_take (l : List Pt) (i : Nat) : (srt l i).take i = srt l i := List.take_of_length_le (by rw [srt_len]; exact Nat.le_refl _)
theorem srt_mem (l : List Pt) (i : Nat) : ∀ x ∈ srt l i, x < i := by
  intro x hx
  unfold srt at hx
  rw [List.mem_reverse, fold_mem] at hx
  simpa using hx
theorem srt_all (l : List Pt) : srt l l.length = orderI l := by
  unfold srt orderI
  cases hr : List.range l.length with
  | nil => rfl
  | cons a rest => rw [insort_eq]; rfl
/-- One exchange. -/
def swp (j : Nat) (xs : List Nat) : List Nat := (xs.set j (xs.getD (j - 1) 0)).set (j - 1) (xs.getD j 0)
theorem inner_t (lt : Nat → Nat → Bool) {j : Nat} {xs : List Nat} (hj : 0 < j) (h : lt (xs.getD j 0) (xs.getD (j - 1) 0) = true) : inner lt j xs = inner lt (j - 1) (swp j xs) := by
  cases j with
  | zero => omega
  | succ j => simp only [inner, swp, Nat.add_sub_cancel] at h ⊢; rw [if_pos h]
theorem inner_f (lt : Nat → Nat → Bool) {j : Nat} {xs : List Nat} (h : j = 0 ∨ lt (xs.getD j 0) (xs.getD (j - 1) 0) = false) : inner lt j xs = xs := by
  cases j with
  | zero => rfl
  | succ j =>
    rcases h with h | h
    · omega
    · simp only [inner, Nat.add_sub_cancel] at h ⊢; rw [if_neg (by rw [h]; decide)]
theorem swp_length (j : Nat) (xs : List Nat) : (swp j xs).length = xs.length := by simp [swp]
theorem swp_mem {j n : Nat} {xs : List Nat} (hj : j < xs.length) (h : ∀ x ∈ xs, x < n) : ∀ x ∈ swp j xs, x < n := by
  intro x hx
  unfold swp at hx
  rcases List.mem_or_eq_of_mem_set hx with h1 | h1
  · rcases List.mem_or_eq_of_mem_set h1 with h2 | h2
    · exact h x h2
    · rw [h2]; exact getD_lt h (by omega)
  · rw [h1]; exact getD_lt h hj
theorem c88 (l : List Pt) (hl : 0 < l.length) (hn : l.length < 100000) : CallsF Try.prog 88 [pts l] [] (.sl 0 0 0 l.length) [.row false 0 false 1 (ix (orderI l))] := by
  have hsl := srt_len l
  have hsm := srt_mem l
  have hrow : ∀ (g : Nat), CWx Try.prog 0 true .ret [(2, .sl 1 g 0 l.length)] [.row true 0 false 1 [], .row false g false 1 (ix (orderI l))] (finK [.t 2] 0 (.sl 0 0 0 l.length) [.row false 0 false 1 (ix (orderI l))]) := fun g => by
    refine CWx.ret fun al hal => finK_ext hal (finK_new (.inr rfl) (xs := [.sl 1 g 0 l.length]) (b := 1) (g := g) (nil := false) (frz := false) (sz := 1) (ys := ix (orderI l)) (by simp [resRV, Am.get]) rfl (allRL_ix _ _ _) ?_ ?_) <;> simp [tupAV, AV.allR, sigP, AV.mapR, sigF]
  refine callsF_cwx hm hf88 (by simp [cf88]) ?_
  simp only [cf88, argsAl]
  repeat' first
    | (refine hK _ _ _ (by first | exact fun h => Bool.noConfusion h | exact fun _ => rfl) ?_; clear hK K)
    | (refine CWx.r fun K hK => ?_; simp (maxSteps := 4000000) (disch := omega) only [dr0, dr1, dr2, dr3, dr4, if_true, if_false, Option.some.injEq, Nat.reduceEqDiff, Int.reduceToNat, Nat.reduceSub, Nat.reduceAdd, Nat.reduceMul, Nat.reduceLT, Nat.reduceLeDiff, reduceCtorEq, ↓reduceIte, catT, enc0, enc1, if_pos, if_neg, ix_set, srt_take, srt_len, ixgS])
    | refine CWx.go ?_
    | (apply RCx.view (fid := 36) (caps := []) rfl rfl; (focus ((simp only [evsA, evA_t, evA_c, Am.get, Nat.reduceEqDiff, ↓reduceIte, List.nil_append, List.cons_append, List.append_nil]; repeat' first | exact viewArgs_nil | apply viewArgs_cons | exact viewG_flat (flat_pts _ _) _ | exact viewG_flat (flat_ixV _ _) _ | exact viewG_flat (flat_sv _ _) _ | exact viewG_ixT rfl (by assumption) (by omega) | exact viewG_ptsL rfl (by first | omega | (simp; done) | (simp; omega)) | exact viewG_ix rfl (by first | omega | (simp; omega)) | exact viewG_flat rfl _; done))); (focus (refine c36 _ _ <;> first | omega | assumption)); (focus rfl); simp (maxSteps := 4000000) (disch := omega) only [dr0, dr1, dr2, dr3, dr4, if_true, if_false, Option.some.injEq, Nat.reduceEqDiff, Int.reduceToNat, Nat.reduceSub, Nat.reduceAdd, Nat.reduceMul, Nat.reduceLT, Nat.reduceLeDiff, reduceCtorEq, ↓reduceIte, catT, enc0, enc1, if_pos, if_neg, ix_set, srt_take, srt_len, ixgS])
    | (refine gX_split (fun hb => ?_) (fun hb => ?_) <;> (try simp only [hb]) <;> (try simp only [bset0, reduceCtorEq] at hb) <;> simp (maxSteps := 4000000) (disch := omega) only [dr0, dr1, dr2, dr3, dr4, if_true, if_false, Option.some.injEq, Nat.reduceEqDiff, Int.reduceToNat, Nat.reduceSub, Nat.reduceAdd, Nat.reduceMul, Nat.reduceLT, Nat.reduceLeDiff, reduceCtorEq, ↓reduceIte, catT, enc0, enc1, if_pos, if_neg, ix_set, srt_take, srt_len, ixgS])
    | (refine CWx.br rfl (fun hb => ?_) (fun hb => ?_) <;> first | exact Bool.noConfusion hb | (first | (simp only [bset0, reduceCtorEq] at hb; done) | ((try simp only [bset0, reduceCtorEq] at hb); first | contradiction | skip)))
    | (refine CWx.e fun K hK => ?_; simp (maxSteps := 4000000) (disch := omega) only [dr0, dr1, dr2, dr3, dr4, if_true, if_false, Option.some.injEq, Nat.reduceEqDiff, Int.reduceToNat, Nat.reduceSub, Nat.reduceAdd, Nat.reduceMul, Nat.reduceLT, Nat.reduceLeDiff, reduceCtorEq, ↓reduceIte, catT, enc0, enc1, if_pos, if_neg, ix_set, srt_take, srt_len, ixgS])
    | (refine CWx.block (id := 0) ?_; refine CWx.loopK (ι := Nat × Nat) [0] (fun q => l.length - q.1) (fun q => [(4, .int .i64 (q.1 : Int)), (3, .sl 1 q.2 0 q.1)]) (fun q => [.row true 0 false 1 [], .row (decide (q.1 = 0)) q.2 false 1 (ix (srt l q.1))]) (fun q => q.1 ≤ l.length) (fun i => by simp only [keepA, Am.get, List.cons_append, List.nil_append, Nat.reduceEqDiff, ↓reduceIte]; exact rfl) ((0, 0)) ?_ ?_ (fun q hi => ?_); (focus ((try dsimp only) <;> (first | trivial | omega | (refine ⟨?_, ?_⟩ <;> first | omega | trivial | simp_all) | simp_all); done)); (focus (refine Fgt.mk' 2 (by simp) ?_ ?_ ?_ <;> simp [-List.map_take, -List.map_map, AV.isY, ltL_append, ix_nil, keepB, Am.get, AV.lt, ltL, lt_pts, lt_pt, lt_ixV, ltL_ix, ltL_pt, Blk.lt, ltB, srt_zero]; done)); have Hq := hi; ((have hq1 := hsl q.1)))
    | (refine CWx.block (id := 2) ?_; refine CWx.loopK (ι := Nat × List Nat) [0, 3, 4] (fun r => r.1) (fun r => [(5, .int .i64 (r.1 : Int))]) (fun r => [.row true 0 false 1 [], .row false (q.2 + 1) false 1 (ix r.2)]) (fun r => (r.1 ≤ q.1 ∧ r.2.length = q.1 + 1) ∧ inner (lessB l) r.1 r.2 = srt l (q.1 + 1) ∧ ∀ x ∈ r.2, x < l.length) (fun i => by simp only [keepA, Am.get, List.cons_append, List.nil_append, Nat.reduceEqDiff, ↓reduceIte]; exact rfl) ((q.1, srt l q.1 ++ [q.1])) ?_ ?_ (fun r hi => ?_); (focus (exact ⟨⟨Nat.le_refl _, by simp [hq1]⟩, (srt_succ l q.1).symm, fun x hx => by rcases List.mem_append.1 hx with h | h; (have := hsm q.1 x h; omega); (rw [List.mem_singleton.1 h]; omega)⟩; done)); (focus (refine Fgt.mk' 2 (by simp) ?_ ?_ ?_ <;> simp [-List.map_take, -List.map_map, AV.isY, ltL_append, ix_nil, keepB, Am.get, AV.lt, ltL, lt_pts, lt_pt, lt_ixV, ltL_ix, ltL_pt, Blk.lt, ltB, hq1]; done)); have Hr := hi; ((obtain ⟨⟨hr1, hr2⟩, hr3, hr4⟩ := hi); (have hm1 : r.2.getD r.1 0 < l.length := getD_lt hr4 (by omega)); (have hm2 : 0 < r.1 → r.2.getD (r.1 - 1) 0 < l.length := fun h => getD_lt hr4 (by omega))))
    | refine CWx.seq ?_
    | refine CWx.block (id := 1) ?_
    | refine CWx.block (id := 3) ?_
    | refine CWx.skip ?_
    | (refine CWx.exit (id := 2) ?_; (have er : r.2 = srt l (q.1 + 1) := by rw [← hr3]; exact (inner_f (lessB l) (by first | exact .inl (by omega) | exact .inr (by rw [lessB_eq]; assumption))).symm); simp only [er])
    | (refine CWx.exit (id := 0) ?_; (have eq : q.1 = l.length := by omega); simp only [eq, srt_all, decide_eq_false (show ¬ l.length = 0 by omega)])
    | refine CWx.exit ?_
    | (refine CWx.ret fun al hal => finK_ext hal (finK_pure (.inr rfl) (by simp only [resRV, Am.get, Nat.reduceEqDiff, ↓reduceIte]; exact rfl) ?_ ?_); (focus (first | (rfl; done) | ((simp only [tupAV]; congr <;> omega); done) | (simp [tupAV, *]; done))); (focus (first | rfl | (simp [AV.allR, allRL, allRL_ix]; done))))
    | (intro al hal; refine ⟨(r.1 - 1, swp r.1 r.2), ?_, ?_, Fgt.ofx hal ?_⟩; (focus (first | omega | (dsimp only; omega))); (focus (exact ⟨⟨by dsimp only; omega, by dsimp only; rw [swp_length]; omega⟩, by dsimp only; rw [← inner_t (lessB l) (by omega) (by rw [lessB_eq]; assumption)]; exact hr3, swp_mem (by omega) hr4⟩; done)); (focus (refine Fgt.mk' 2 (by simp) ?_ ?_ ?_ <;> simp [-List.map_take, -List.map_map, AV.isY, ltL_append, ix_nil, keepB, Am.get, AV.lt, ltL, lt_pts, lt_pt, lt_ixV, ltL_ix, ltL_pt, Blk.lt, ltB, hq1, swp]; done)))
    | (intro al hal; refine ⟨(q.1 + 1, q.2 + 1), ?_, ?_, Fgt.ofx hal ?_⟩; (focus (first | omega | (dsimp only; omega))); (focus ((try dsimp only) <;> (first | trivial | omega | (refine ⟨?_, ?_⟩ <;> first | omega | trivial | simp_all) | simp_all); done)); (focus (refine Fgt.mk' 2 (by simp) ?_ ?_ ?_ <;> simp [-List.map_take, -List.map_map, AV.isY, ltL_append, ix_nil, keepB, Am.get, AV.lt, ltL, lt_pts, lt_pt, lt_ixV, ltL_ix, ltL_pt, Blk.lt, ltB, srt_zero]; done)))
    | (refine CWx.ret fun al hal => finK_ext hal (finK_new (.inr rfl) (xs := [.sl 1 q.2 0 l.length]) (b := 1) (g := q.2) (nil := false) (frz := false) (sz := 1) (ys := ix (orderI l)) (by simp [resRV, Am.get]) rfl (allRL_ix _ _ _) ?_ ?_) <;> simp [tupAV, AV.allR, sigP, AV.mapR, sigF])
end Go.Hull
end
section
set_option linter.unusedSimpArgs false
set_option linter.unusedVariables false
set_option maxHeartbeats 8000000
set_option maxRecDepth 100000
namespace Go.Hull
open Go Go.Am Go.Proofs

def vp (l : List Pt) (i : Nat) : List Nat := ((orderI l).take i).filter (vertexB l)
theorem vp_zero (l : List Pt) : vp l 0 = [] := rfl
theorem take_succN (v : List Nat) {i : Nat} (h : i < v.length) : v.take (i + 1) = v.take i ++ [v.getD i 0] := by
  rw [List.take_add_one, List.getElem?_eq_getElem h]
  simp only [Option.toList_some, List.getD_eq_getElem?_getD, List.getElem?_eq_getElem h, Option.getD_some]
theorem vp_t (l : List Pt) (i : Nat) (hi : i < l.length) (h : vertexB l ((orderI l).getD i 0) = true) : vp l (i + 1) = vp l i ++ [(orderI l).getD i 0] := by
  unfold vp; rw [take_succN _ (by rw [orderI_length]; exact hi), List.filter_append]; simp only [List.filter_cons, h, if_true, List.filter_nil]
theorem vp_f (l : List Pt) (i : Nat) (hi : i < l.length) (h : vertexB l ((orderI l).getD i 0) = false) : vp l (i + 1) = vp l i := by
  unfold vp; rw [take_succN _ (by rw [orderI_length]; exact hi), List.filter_append]; simp only [List.filter_cons, h, List.filter_nil, List.append_nil, Bool.false_eq_true, if_false]
theorem vp_len (l : List Pt) (i : Nat) : (vp l i).length ≤ l.length := by
  unfold vp; exact Nat.le_trans (List.length_filter_le _ _) (by rw [List.length_take, orderI_length]; omega)
theorem vp_all (l : List Pt) : vp l l.length = vtx l := by
  unfold vp vtx; rw [List.take_of_length_le (by rw [orderI_length]; exact Nat.le_refl _)]
theorem takeD (h : List Nat) (m i : Nat) (hi : i < m) : (h.take m).getD i 0 = h.getD i 0 := by
  rw [List.getD_eq_getElem?_getD, List.getD_eq_getElem?_getD, List.getElem?_take_of_lt hi]
theorem ix_one (n : Nat) : (ix [n])[0]? = some (.int .i64 (n : Int)) := rfl
theorem ixgT (h : List Nat) (k : Nat) (hk : k + 2 ≤ h.length) : (ix (h.take (k + 2)))[k + 2 - 1]? = some (.int .i64 ((h.getD (k + 1) 0 : Nat) : Int)) := by
  rw [ix_get _ (by rw [List.length_take]; omega), takeD h _ _ (by omega)]; rfl
def outV (h0 : Nat) : Nat → AV
  | 0 => .sv true 1 (ix [h0])
  | k + 1 => .sl 4 k 0 (k + 2)
def outR (l : List Pt) (g : Nat) (h : List Nat) : Nat → List Blk
  | 0 => [.row true 0 false 1 [], .row false g true 1 (ix (vtx l)), .row false 0 false 1 (ix (orderI l))]
  | k + 1 => [.row true 0 false 1 [], .row false g true 1 (ix (vtx l)), .row false 0 false 1 (ix (orderI l)), .row false 0 false 1 [.int .i64 ((h.getD 1 0 : Nat) : Int)], .row false k false 1 (ix (h.take (k + 2)))]
theorem c53b (l : List Pt) (hn : l.length ≤ 8) (oka : l.all okP = true) (h2 : 2 ≤ (hullI l).length) : CallsF Try.prog 53 [pts l] [] (.sl 0 0 0 (hullI l).length) [.row false 0 false 1 (ix (hullI l))] := by
  have hle := hull_le (l := l)
  have hl : 0 < l.length := by omega
  have hvl := vp_len l
  have ol := orderI_length l
  have om : ∀ i, i < l.length → (orderI l).getD i 0 < l.length := fun i hi => getD_lt (orderI_mem l) (by omega)
  have vl := vtx_length l
  have v0 := vtx_first hl
  obtain ⟨h, hh⟩ : ∃ h, h = hullI l := ⟨_, rfl⟩
  obtain ⟨V, hV⟩ : ∃ V, V = vtx l := ⟨_, rfl⟩
  have hVt : V.take V.length = V := List.take_of_length_le (Nat.le_refl _)
  have vm : ∀ k, k < V.length → V.getD k 0 < l.length := fun k hk => hull_mem _ ((vtx_mem l _).1 (by rw [← hV]; exact getD_mem hk))
  have hhm : ∀ k, k < h.length → h.getD k 0 < l.length := fun k hk => getD_lt (by rw [hh]; exact hull_mem) hk
  have fx : ∀ k j, k + 1 < h.length → j < V.length → folB l V (h.getD k 0) (V.getD j 0) = true → V.getD j 0 = h.getD (k + 1) 0 := fun k j hk hj hf => by
    rw [hh] at hk hf ⊢
    rw [hV] at hj hf ⊢
    exact (fol_iff hl hk (getD_mem hj)).1 hf
  have fno : ∀ k, k + 1 < h.length → (∀ m, m < V.length → folB l V (h.getD k 0) (V.getD m 0) = false) → False := fun k hk hno => by
    obtain ⟨m, hm, e⟩ := mem_getD ((vtx_mem l (h.getD (k + 1) 0)).2 (by rw [← hh]; exact getD_mem hk))
    rw [← hV] at hm e
    have := hno m hm
    rw [e] at this
    have h3 := (fol_iff hl (k := k) (by rw [← hh]; exact hk) (x := h.getD (k + 1) 0) ((vtx_mem l _).2 (by rw [← hh]; exact getD_mem hk))).2 (by rw [hh])
    rw [← hh, ← hV, this] at h3; cases h3
  rw [← hh, ← hV] at vl v0
  rw [← hh] at h2 hle ⊢
  have hht : h.take h.length = h := List.take_of_length_le (Nat.le_refl _)
  have hsucc : ∀ k, k < h.length → h.take (k + 1) = h.take k ++ [h.getD k 0] := fun k hk => take_succN h hk
  have hV1 : V.take 1 = [h.getD 0 0] := by
    rw [take_succN V (i := 0) (by omega), v0]; rfl
  have ht2 : h.take 2 = [h.getD 0 0, h.getD 1 0] := by rw [hsucc 1 (by omega), hsucc 0 (by omega)]; rfl
  have hs3 : ∀ k, k + 2 < h.length → h.take (k + 3) = h.take (k + 2) ++ [h.getD (k + 2) 0] := fun k hk => hsucc (k + 2) hk
  refine callsF_cwx hm hf53 (by simp [cf53]) ?_
  simp only [cf53, argsAl]
  repeat' first
    | (refine hK _ _ _ (by first | exact fun h => Bool.noConfusion h | exact fun _ => rfl) ?_; clear hK K)
    | (refine CWx.r fun K hK => ?_; simp (maxSteps := 4000000) (disch := omega) only [dr0, dr1, dr2, dr3, dr4, if_true, if_false, Option.some.injEq, Nat.reduceEqDiff, Int.reduceToNat, Nat.reduceSub, Nat.reduceAdd, Nat.reduceMul, Nat.reduceLT, Nat.reduceLeDiff, reduceCtorEq, ↓reduceIte, catT, enc0, enc1, if_pos, if_neg, ix_one, ixgT, AV.ren, ren_row_ix, Nat.reduceSub, Nat.add_sub_cancel, takeD, hV1, slcMAV, appendAV_sv, ← hV])
    | refine CWx.go ?_
    | (refine RCx.viewR (fid := 88) (caps := []) rfl rfl (viewArgs_flat1 (flat_pts l 2)) (c88 l hl (by omega)) (by simp [AV.clean, clean_ix]) ?_; simp (maxSteps := 4000000) (disch := omega) only [dr0, dr1, dr2, dr3, dr4, if_true, if_false, Option.some.injEq, Nat.reduceEqDiff, Int.reduceToNat, Nat.reduceSub, Nat.reduceAdd, Nat.reduceMul, Nat.reduceLT, Nat.reduceLeDiff, reduceCtorEq, ↓reduceIte, catT, enc0, enc1, if_pos, if_neg, ix_one, ixgT, AV.ren, ren_row_ix, Nat.reduceSub, Nat.add_sub_cancel, takeD, hV1, slcMAV, appendAV_sv, ← hV])
    | (apply RCx.view (fid := 89) (caps := []) rfl rfl; (focus ((simp only [evsA, evA_t, evA_c, Am.get, Nat.reduceEqDiff, ↓reduceIte, List.nil_append, List.cons_append, List.append_nil]; repeat' first | exact viewArgs_nil | apply viewArgs_cons | exact viewG_flat (flat_pts _ _) _ | exact viewG_flat (flat_ixV _ _) _ | exact viewG_flat (flat_sv _ _) _ | exact viewG_ixT rfl (by assumption) (by omega) | exact viewG_ptsL rfl (by first | omega | (simp; done) | (simp; omega)) | exact viewG_ix rfl (by first | omega | (simp; omega)) | exact viewG_flat rfl _; done))); (focus (refine c89 l _ (om _ ?_) ?_ oka <;> first | omega | assumption)); (focus rfl); simp (maxSteps := 4000000) (disch := omega) only [dr0, dr1, dr2, dr3, dr4, if_true, if_false, Option.some.injEq, Nat.reduceEqDiff, Int.reduceToNat, Nat.reduceSub, Nat.reduceAdd, Nat.reduceMul, Nat.reduceLT, Nat.reduceLeDiff, reduceCtorEq, ↓reduceIte, catT, enc0, enc1, if_pos, if_neg, ix_one, ixgT, AV.ren, ren_row_ix, Nat.reduceSub, Nat.add_sub_cancel, takeD, hV1, slcMAV, appendAV_sv, ← hV])
    | (apply RCx.view (fid := 90) (caps := []) rfl rfl; (focus ((simp only [evsA, evA_t, evA_c, Am.get, Nat.reduceEqDiff, ↓reduceIte, List.nil_append, List.cons_append, List.append_nil]; repeat' first | exact viewArgs_nil | apply viewArgs_cons | exact viewG_flat (flat_pts _ _) _ | exact viewG_flat (flat_ixV _ _) _ | exact viewG_flat (flat_sv _ _) _ | exact viewG_ixT rfl (by assumption) (by omega) | exact viewG_ptsL rfl (by first | omega | (simp; done) | (simp; omega)) | exact viewG_ix rfl (by first | omega | (simp; omega)) | exact viewG_flat rfl _; done))); (focus (refine c90 l V _ _ (hhm _ ?_) (vm _ ?_) vm ?_ ?_ oka <;> first | omega | assumption)); (focus rfl); simp (maxSteps := 4000000) (disch := omega) only [dr0, dr1, dr2, dr3, dr4, if_true, if_false, Option.some.injEq, Nat.reduceEqDiff, Int.reduceToNat, Nat.reduceSub, Nat.reduceAdd, Nat.reduceMul, Nat.reduceLT, Nat.reduceLeDiff, reduceCtorEq, ↓reduceIte, catT, enc0, enc1, if_pos, if_neg, ix_one, ixgT, AV.ren, ren_row_ix, Nat.reduceSub, Nat.add_sub_cancel, takeD, hV1, slcMAV, appendAV_sv, ← hV])
    | (refine gX_split (fun hb => ?_) (fun hb => ?_) <;> (try simp only [hb]) <;> (try simp only [bset0, reduceCtorEq] at hb) <;> first | omega | simp (maxSteps := 4000000) (disch := omega) only [dr0, dr1, dr2, dr3, dr4, if_true, if_false, Option.some.injEq, Nat.reduceEqDiff, Int.reduceToNat, Nat.reduceSub, Nat.reduceAdd, Nat.reduceMul, Nat.reduceLT, Nat.reduceLeDiff, reduceCtorEq, ↓reduceIte, catT, enc0, enc1, if_pos, if_neg, ix_one, ixgT, AV.ren, ren_row_ix, Nat.reduceSub, Nat.add_sub_cancel, takeD, hV1, slcMAV, appendAV_sv, ← hV])
    | (refine CWx.br rfl (fun hb => ?_) (fun hb => ?_) <;> first | exact Bool.noConfusion hb | (first | (simp only [bset0, reduceCtorEq] at hb; done) | ((try simp only [bset0, reduceCtorEq] at hb); first | omega | skip)))
    | (refine CWx.e fun K hK => ?_; simp (maxSteps := 4000000) (disch := omega) only [dr0, dr1, dr2, dr3, dr4, if_true, if_false, Option.some.injEq, Nat.reduceEqDiff, Int.reduceToNat, Nat.reduceSub, Nat.reduceAdd, Nat.reduceMul, Nat.reduceLT, Nat.reduceLeDiff, reduceCtorEq, ↓reduceIte, catT, enc0, enc1, if_pos, if_neg, ix_one, ixgT, AV.ren, ren_row_ix, Nat.reduceSub, Nat.add_sub_cancel, takeD, hV1, slcMAV, appendAV_sv, ← hV])
    | (refine CWx.block (id := 0) ?_; refine CWx.loopK (ι := Nat × Nat) [0, 10, 11] (fun q => l.length - q.1) (fun q => [(12, .int .i64 (q.1 : Int)), (3, .sl 1 q.2 0 (vp l q.1).length)]) (fun q => [.row true 0 false 1 [], .row (vp l q.1).isEmpty q.2 false 1 (ix (vp l q.1)), .row false 0 false 1 (ix (orderI l))]) (fun q => q.1 ≤ l.length) (fun i => by simp only [keepA, Am.get, List.cons_append, List.nil_append, Nat.reduceEqDiff, ↓reduceIte]; exact rfl) ((0, 0)) ?_ ?_ (fun q hi => ?_); (focus ((try dsimp only) <;> (first | trivial | omega | (refine ⟨?_, ?_⟩ <;> first | omega | trivial | simp_all) | simp_all); done)); (focus (refine Fgt.mk' 3 (by simp) ?_ ?_ ?_ <;> simp [-List.map_take, -List.map_map, AV.isY, ltL_append, ix_nil, keepB, Am.get, AV.lt, ltL, lt_pts, lt_pt, lt_ixV, ltL_ix, ltL_pt, Blk.lt, ltB, vp_zero]; done)); have Hq := hi; ((have hvq := hvl q.1); (have omq := om q.1)))
    | (refine CWx.block (id := 2) ?_; refine CWx.loopK (ι := Nat) [0, 3] (fun k => h.length - k) (fun k => [(6, outV (h.getD 0 0) k)]) (fun k => outR l q.2 h k) (fun k => k + 1 ≤ h.length) (fun i => by simp only [keepA, Am.get, List.cons_append, List.nil_append, Nat.reduceEqDiff, ↓reduceIte]; exact rfl) (0) ?_ ?_ (fun k hi => ?_); (focus ((try dsimp only) <;> (first | trivial | omega | (refine ⟨?_, ?_⟩ <;> first | omega | trivial | simp_all) | simp_all); done)); (focus (refine Fgt.mk' 3 (by simp) ?_ ?_ ?_ <;> simp [-List.map_take, -List.map_map, AV.isY, ltL_append, ix_nil, keepB, Am.get, AV.lt, ltL, lt_pts, lt_pt, lt_ixV, ltL_ix, ltL_pt, Blk.lt, ltB, outV, outR, ← hV]; done)); have Hk := hi; ((obtain ⟨K, hK⟩ : ∃ K, K = k := ⟨_, rfl⟩); (rcases k with _ | k <;> simp only [outV, outR, ← hV])))
    | (refine CWx.block (id := 4) ?_; refine CWx.loopK (ι := Nat) [0, 3, 6, 7] (fun j => V.length - j) (fun j => [(8, .int .i64 (j : Int))]) (fun j => outR l q.2 h K) (fun j => j ≤ V.length ∧ ∀ x, x < j → folB l V (h.getD K 0) (V.getD x 0) = false) (fun i => by simp only [keepA, Am.get, List.cons_append, List.nil_append, Nat.reduceEqDiff, ↓reduceIte]; exact rfl) (0) ?_ ?_ (fun j hi => ?_); (focus ((try dsimp only) <;> (first | trivial | omega | (refine ⟨?_, ?_⟩ <;> first | omega | trivial | simp_all) | simp_all); done)); (focus (refine Fgt.mk' (outR l q.2 h K).length (by simp) ?_ ?_ ?_ <;> simp [-List.map_take, -List.map_map, AV.isY, ltL_append, ix_nil, keepB, Am.get, AV.lt, ltL, lt_pts, lt_pt, lt_ixV, ltL_ix, ltL_pt, Blk.lt, ltB, hK, outR, ← hV]; done)); have Hj := hi; (simp only [hK, outR, ← hV]))
    | refine CWx.seq ?_
    | refine CWx.block (id := 1) ?_
    | refine CWx.block (id := 3) ?_
    | refine CWx.block (id := 5) ?_
    | refine CWx.skip ?_
    | (refine CWx.exit (id := 0) ?_; (have eq : q.1 = l.length := by omega); (have hne : (vtx l).isEmpty = false := by rw [← hV]; cases V with | nil => (simp at vl; omega) | cons x xs => rfl); simp only [eq, vp_all, hne])
    | (refine CWx.exit (id := 4) ?_; first | (exfalso; exact fno K (by omega) (fun m hm => hi.2 m (by omega))) | ((have er : V.getD j 0 = h.getD (K + 1) 0 := fx K j (by omega) (by omega) (by rw [hK]; assumption)); simp only [er, hK, Nat.zero_add]))
    | (refine CWx.exit (id := 2) ?_; (have ek : k + 2 = h.length := by omega); simp only [ek, hht])
    | refine CWx.exit ?_
    | (refine CWx.ret fun al hal => finK_ext hal (finK_pure (.inr rfl) (by simp only [resRV, Am.get, Nat.reduceEqDiff, ↓reduceIte]; exact rfl) ?_ ?_); (focus (first | (rfl; done) | ((simp only [tupAV]; congr <;> omega); done) | (simp [tupAV, *]; done))); (focus (first | rfl | (simp [AV.allR, allRL, allRL_ix]; done))))
    | (intro al hal; refine ⟨(q.1 + 1, q.2 + 1), ?_, ?_, Fgt.ofx hal ?_⟩; (focus (first | omega | (dsimp only; omega))); (focus ((try dsimp only) <;> (first | trivial | omega | (refine ⟨?_, ?_⟩ <;> first | omega | trivial | simp_all) | simp_all); done)); (focus (refine Fgt.mk' 3 (by simp) ?_ ?_ ?_ <;> simp [-List.map_take, -List.map_map, AV.isY, ltL_append, ix_nil, keepB, Am.get, AV.lt, ltL, lt_pts, lt_pt, lt_ixV, ltL_ix, ltL_pt, Blk.lt, ltB, vp_zero, vp_t l q.1 (by omega) (by assumption)]; done)))
    | (intro al hal; refine ⟨(q.1 + 1, q.2), ?_, ?_, Fgt.ofx hal ?_⟩; (focus (first | omega | (dsimp only; omega))); (focus ((try dsimp only) <;> (first | trivial | omega | (refine ⟨?_, ?_⟩ <;> first | omega | trivial | simp_all) | simp_all); done)); (focus (refine Fgt.mk' 3 (by simp) ?_ ?_ ?_ <;> simp [-List.map_take, -List.map_map, AV.isY, ltL_append, ix_nil, keepB, Am.get, AV.lt, ltL, lt_pts, lt_pt, lt_ixV, ltL_ix, ltL_pt, Blk.lt, ltB, vp_zero, vp_f l q.1 (by omega) (by assumption)]; done)))
    | (intro al hal; refine ⟨j + 1, ?_, ?_, Fgt.ofx hal ?_⟩; (focus (first | omega | (dsimp only; omega))); (focus ((rw [hK] at hi; exact ⟨by omega, allUp hi.2 (by assumption)⟩); done)); (focus (refine Fgt.mk' (outR l q.2 h K).length (by simp) ?_ ?_ ?_ <;> simp [-List.map_take, -List.map_map, AV.isY, ltL_append, ix_nil, keepB, Am.get, AV.lt, ltL, lt_pts, lt_pt, lt_ixV, ltL_ix, ltL_pt, Blk.lt, ltB, hK, outR, ← hV, hK, outR, ← hV]; done)))
    | (intro al hal; refine ⟨K + 1, ?_, ?_, Fgt.ofx hal ?_⟩; (focus (first | omega | (dsimp only; omega))); (focus ((try dsimp only) <;> (first | trivial | omega | (refine ⟨?_, ?_⟩ <;> first | omega | trivial | simp_all) | simp_all); done)); (focus (refine Fgt.mk' 5 (by simp) ?_ ?_ ?_ <;> simp [-List.map_take, -List.map_map, AV.isY, ltL_append, ix_nil, keepB, Am.get, AV.lt, ltL, lt_pts, lt_pt, lt_ixV, ltL_ix, ltL_pt, Blk.lt, ltB, hK, outR, outV, ← hV, hs3 k (by omega)]; done)))
    | (intro al hal; refine ⟨K + 1, ?_, ?_, Fgt.ofx hal ?_⟩; (focus (first | omega | (dsimp only; omega))); (focus ((try dsimp only) <;> (first | trivial | omega | (refine ⟨?_, ?_⟩ <;> first | omega | trivial | simp_all) | simp_all); done)); (focus (refine Fgt.mk' 5 (by simp) ?_ ?_ ?_ <;> simp [-List.map_take, -List.map_map, AV.isY, ltL_append, ix_nil, keepB, Am.get, AV.lt, ltL, lt_pts, lt_pt, lt_ixV, ltL_ix, ltL_pt, Blk.lt, ltB, hK, outR, outV, ← hV, ht2]; done)))
    | (refine CWx.ret fun al hal => finK_ext hal (finK_new (.inr rfl) (xs := [.sl 4 k 0 h.length]) (b := 4) (g := k) (nil := false) (frz := false) (sz := 1) (ys := ix h) (by simp [resRV, Am.get]) rfl (allRL_ix _ _ _) ?_ ?_) <;> simp [tupAV, AV.allR, sigP, AV.mapR, sigF])
end Go.Hull
end
section
set_option linter.unusedSimpArgs false
set_option linter.unusedVariables false
set_option maxHeartbeats 8000000
set_option maxRecDepth 100000
namespace Go.Hull
open Go Go.Am Go.Proofs

theorem c53a (l : List Pt) (hl : 0 < l.length) (hn : l.length ≤ 8) (oka : l.all okP = true) (h1 : (hullI l).length = 1) : CallsF Try.prog 53 [pts l] [] (.sv true 1 (ix (hullI l))) [] := by
  have hvl := vp_len l
  have ol := orderI_length l
  have om : ∀ i, i < l.length → (orderI l).getD i 0 < l.length := fun i hi => getD_lt (orderI_mem l) (by omega)
  have vl := vtx_length l
  have v0 := vtx_first hl
  obtain ⟨h, hh⟩ : ∃ h, h = hullI l := ⟨_, rfl⟩
  obtain ⟨V, hV⟩ : ∃ V, V = vtx l := ⟨_, rfl⟩
  rw [← hh, ← hV] at vl v0
  rw [← hh] at h1 ⊢
  have hV1 : V.take 1 = [h.getD 0 0] := by
    rw [take_succN V (i := 0) (by omega), v0]; rfl
  have h01 : [h.getD 0 0] = h := by
    cases h with
    | nil => simp at h1
    | cons x xs => cases xs with
      | nil => rfl
      | cons y ys => simp at h1
  refine callsF_cwx hm hf53 (by simp [cf53]) ?_
  simp only [cf53, argsAl]
  repeat' first
    | (refine hK _ _ _ (by first | exact fun h => Bool.noConfusion h | exact fun _ => rfl) ?_; clear hK K)
    | (refine CWx.r fun K hK => ?_; simp (maxSteps := 4000000) (disch := omega) only [dr0, dr1, dr2, dr3, dr4, if_true, if_false, Option.some.injEq, Nat.reduceEqDiff, Int.reduceToNat, Nat.reduceSub, Nat.reduceAdd, Nat.reduceMul, Nat.reduceLT, Nat.reduceLeDiff, reduceCtorEq, ↓reduceIte, catT, enc0, enc1, if_pos, if_neg, ix_one, AV.ren, ren_row_ix, hV1, slcMAV, ← hV, h01])
    | refine CWx.go ?_
    | (refine RCx.viewR (fid := 88) (caps := []) rfl rfl (viewArgs_flat1 (flat_pts l 2)) (c88 l hl (by omega)) (by simp [AV.clean, clean_ix]) ?_; simp (maxSteps := 4000000) (disch := omega) only [dr0, dr1, dr2, dr3, dr4, if_true, if_false, Option.some.injEq, Nat.reduceEqDiff, Int.reduceToNat, Nat.reduceSub, Nat.reduceAdd, Nat.reduceMul, Nat.reduceLT, Nat.reduceLeDiff, reduceCtorEq, ↓reduceIte, catT, enc0, enc1, if_pos, if_neg, ix_one, AV.ren, ren_row_ix, hV1, slcMAV, ← hV, h01])
    | (apply RCx.view (fid := 89) (caps := []) rfl rfl; (focus ((simp only [evsA, evA_t, evA_c, Am.get, Nat.reduceEqDiff, ↓reduceIte, List.nil_append, List.cons_append, List.append_nil]; repeat' first | exact viewArgs_nil | apply viewArgs_cons | exact viewG_flat (flat_pts _ _) _ | exact viewG_flat (flat_ixV _ _) _ | exact viewG_flat (flat_sv _ _) _ | exact viewG_ixT rfl (by assumption) (by omega) | exact viewG_ptsL rfl (by first | omega | (simp; done) | (simp; omega)) | exact viewG_ix rfl (by first | omega | (simp; omega)) | exact viewG_flat rfl _; done))); (focus (refine c89 l _ (om _ ?_) ?_ oka <;> first | omega | assumption)); (focus rfl); simp (maxSteps := 4000000) (disch := omega) only [dr0, dr1, dr2, dr3, dr4, if_true, if_false, Option.some.injEq, Nat.reduceEqDiff, Int.reduceToNat, Nat.reduceSub, Nat.reduceAdd, Nat.reduceMul, Nat.reduceLT, Nat.reduceLeDiff, reduceCtorEq, ↓reduceIte, catT, enc0, enc1, if_pos, if_neg, ix_one, AV.ren, ren_row_ix, hV1, slcMAV, ← hV, h01])
    | (refine gX_split (fun hb => ?_) (fun hb => ?_) <;> (try simp only [hb]) <;> (try simp only [bset0, reduceCtorEq] at hb) <;> first | omega | simp (maxSteps := 4000000) (disch := omega) only [dr0, dr1, dr2, dr3, dr4, if_true, if_false, Option.some.injEq, Nat.reduceEqDiff, Int.reduceToNat, Nat.reduceSub, Nat.reduceAdd, Nat.reduceMul, Nat.reduceLT, Nat.reduceLeDiff, reduceCtorEq, ↓reduceIte, catT, enc0, enc1, if_pos, if_neg, ix_one, AV.ren, ren_row_ix, hV1, slcMAV, ← hV, h01])
    | (refine CWx.br rfl (fun hb => ?_) (fun hb => ?_) <;> first | exact Bool.noConfusion hb | (first | (simp only [bset0, reduceCtorEq] at hb; done) | ((try simp only [bset0, reduceCtorEq] at hb); first | omega | skip)))
    | (refine CWx.e fun K hK => ?_; simp (maxSteps := 4000000) (disch := omega) only [dr0, dr1, dr2, dr3, dr4, if_true, if_false, Option.some.injEq, Nat.reduceEqDiff, Int.reduceToNat, Nat.reduceSub, Nat.reduceAdd, Nat.reduceMul, Nat.reduceLT, Nat.reduceLeDiff, reduceCtorEq, ↓reduceIte, catT, enc0, enc1, if_pos, if_neg, ix_one, AV.ren, ren_row_ix, hV1, slcMAV, ← hV, h01])
    | (refine CWx.block (id := 0) ?_; refine CWx.loopK (ι := Nat × Nat) [0, 10, 11] (fun q => l.length - q.1) (fun q => [(12, .int .i64 (q.1 : Int)), (3, .sl 1 q.2 0 (vp l q.1).length)]) (fun q => [.row true 0 false 1 [], .row (vp l q.1).isEmpty q.2 false 1 (ix (vp l q.1)), .row false 0 false 1 (ix (orderI l))]) (fun q => q.1 ≤ l.length) (fun i => by simp only [keepA, Am.get, List.cons_append, List.nil_append, Nat.reduceEqDiff, ↓reduceIte]; exact rfl) ((0, 0)) ?_ ?_ (fun q hi => ?_); (focus ((try dsimp only) <;> (first | trivial | omega | (refine ⟨?_, ?_⟩ <;> first | omega | trivial | simp_all) | simp_all); done)); (focus (refine Fgt.mk' 3 (by simp) ?_ ?_ ?_ <;> simp [-List.map_take, -List.map_map, AV.isY, ltL_append, ix_nil, keepB, Am.get, AV.lt, ltL, lt_pts, lt_pt, lt_ixV, ltL_ix, ltL_pt, Blk.lt, ltB, vp_zero]; done)); have Hq := hi; ((have hvq := hvl q.1); (have omq := om q.1)))
    | (refine CWx.block (id := 2) ?_; refine CWx.loopK (ι := Nat) [0, 3, 6] (fun k => 1 - k) (fun k => []) (fun k => [.row true 0 false 1 [], .row false q.2 true 1 (ix V), .row false 0 false 1 (ix (orderI l))]) (fun k => k = 0) (fun i => by simp only [keepA, Am.get, List.cons_append, List.nil_append, Nat.reduceEqDiff, ↓reduceIte]; exact rfl) (0) ?_ ?_ (fun k hi => ?_); (focus ((try dsimp only) <;> (first | trivial | omega | (refine ⟨?_, ?_⟩ <;> first | omega | trivial | simp_all) | simp_all); done)); (focus (refine Fgt.mk' 3 (by simp) ?_ ?_ ?_ <;> simp [-List.map_take, -List.map_map, AV.isY, ltL_append, ix_nil, keepB, Am.get, AV.lt, ltL, lt_pts, lt_pt, lt_ixV, ltL_ix, ltL_pt, Blk.lt, ltB, ← hV]; done)); have Hk := hi; (skip))
    | refine CWx.seq ?_
    | refine CWx.block (id := 1) ?_
    | refine CWx.block (id := 3) ?_
    | refine CWx.block (id := 5) ?_
    | refine CWx.skip ?_
    | (refine CWx.exit (id := 0) ?_; (have eq : q.1 = l.length := by omega); (have hne : (vtx l).isEmpty = false := by rw [← hV]; cases V with | nil => (simp at vl; omega) | cons x xs => rfl); simp only [eq, vp_all, hne])
    | refine CWx.exit ?_
    | (refine CWx.ret fun al hal => finK_ext hal (finK_pure (.inr rfl) (by simp only [resRV, Am.get, Nat.reduceEqDiff, ↓reduceIte]; exact rfl) ?_ ?_); (focus (first | (rfl; done) | ((simp only [tupAV]; congr <;> omega); done) | (simp [tupAV, *]; done))); (focus (first | rfl | (simp [AV.allR, allRL, allRL_ix]; done))))
    | (intro al hal; refine ⟨(q.1 + 1, q.2 + 1), ?_, ?_, Fgt.ofx hal ?_⟩; (focus (first | omega | (dsimp only; omega))); (focus ((try dsimp only) <;> (first | trivial | omega | (refine ⟨?_, ?_⟩ <;> first | omega | trivial | simp_all) | simp_all); done)); (focus (refine Fgt.mk' 3 (by simp) ?_ ?_ ?_ <;> simp [-List.map_take, -List.map_map, AV.isY, ltL_append, ix_nil, keepB, Am.get, AV.lt, ltL, lt_pts, lt_pt, lt_ixV, ltL_ix, ltL_pt, Blk.lt, ltB, vp_zero, vp_t l q.1 (by omega) (by assumption)]; done)))
    | (intro al hal; refine ⟨(q.1 + 1, q.2), ?_, ?_, Fgt.ofx hal ?_⟩; (focus (first | omega | (dsimp only; omega))); (focus ((try dsimp only) <;> (first | trivial | omega | (refine ⟨?_, ?_⟩ <;> first | omega | trivial | simp_all) | simp_all); done)); (focus (refine Fgt.mk' 3 (by simp) ?_ ?_ ?_ <;> simp [-List.map_take, -List.map_map, AV.isY, ltL_append, ix_nil, keepB, Am.get, AV.lt, ltL, lt_pts, lt_pt, lt_ixV, ltL_ix, ltL_pt, Blk.lt, ltB, vp_zero, vp_f l q.1 (by omega) (by assumption)]; done)))
    | (refine CWx.ret fun al hal => finK_ext hal (finK_pure (.inr rfl) (xs := [.sv true 1 (ix h)]) (by simp [resRV, Am.get]) rfl (by simp only [AV.allR, allRL_ix, Bool.and_self])))
theorem renL_ix (σ : Nat → Nat) (v : List Nat) : renL σ (ix v) = ix v := renL_id (ix v) (ltL_ix _ _)
end Go.Hull
end
