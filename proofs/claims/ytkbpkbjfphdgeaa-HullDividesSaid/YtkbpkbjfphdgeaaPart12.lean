/- Separated, with its range over a function: walk; the law HullSeparates.
   Conditions: the points are in range, and few. -/
import Derived.Test.YtkbpkbjfphdgeaaPart11
section
set_option linter.unusedSimpArgs false
set_option linter.unusedVariables false
set_option maxHeartbeats 8000000
set_option maxRecDepth 100000
namespace Go.Hull
open Go Go.Am Go.Proofs

theorem ren_row_p1 (σ : Nat → Nat) (n f : Bool) (g s : Nat) (l : List Pt) : (Blk.row n g f s [pts l]).ren σ = .row n g f s [pts l] := by
  have : (pts l).ren σ = pts l := ren_id _ (lt_pts l 0)
  simp only [Blk.ren, renL, this]
theorem P_drop (l : List Pt) (n j : Nat) : P (l.drop n) j = P l (n + j) := by
  unfold P; rw [List.getD_eq_getElem?_getD, List.getElem?_drop, ← List.getD_eq_getElem?_getD]
/-- The first way that separates, told by what was tried before. -/
theorem find_pre {W pre : List Pt} {p : Pt → Bool} {d : Pt} (h : pre ++ [d] <+: W) (h1 : ∀ x ∈ pre, p x = false) (h2 : p d = true) : W.find? p = some d := by
  obtain ⟨post, rfl⟩ := h
  rw [List.append_assoc, List.find?_append, List.find?_eq_none.2 (fun x hx => by rw [h1 x hx]; decide)]
  simp [h2]
theorem pre_wI (a b : List Pt) {i j : Nat} (hi : i < a.length) (hj : j ≤ b.length) : wI a b i j <+: waysI a b := by
  have h1 : wI a b i j <+: wI a b i b.length := by
    unfold wI
    exact (List.prefix_append_right_inj _).2 (by rw [List.take_of_length_le (Nat.le_refl b.length)]; exact (List.take_prefix j b).map _)
  have h2 : ∀ k, i + k < a.length → wI a b i b.length <+: wA a b (i + k + 1) := by
    intro k
    induction k with
    | zero => intro h; rw [Nat.add_zero, wA_succ a b i h]; exact List.prefix_refl _
    | succ k ih =>
      intro h
      rw [← Nat.add_assoc, wA_succ a b (i + k + 1) (by omega)]
      exact (ih (by omega)).trans (by unfold wI; exact List.prefix_append _ _)
  have h3 := h2 (a.length - 1 - i) (by omega)
  rw [show i + (a.length - 1 - i) + 1 = a.length by omega] at h3
  refine (h1.trans h3).trans ?_
  unfold waysI wP wP wP
  rw [List.append_assoc]
  exact List.prefix_append _ _
theorem pre_wN (l : List Pt) {i : Nat} : ∀ k, wN l i <+: wN l (i + k) := by
  intro k
  induction k with
  | zero => exact List.prefix_refl _
  | succ k ih => rw [← Nat.add_assoc, wN]; exact ih.trans (List.prefix_append _ _)
theorem pre_wN1 (l : List Pt) (i : Nat) {j : Nat} : ∀ k, wN1 l i j <+: wN1 l i (j + k) := by
  intro k
  induction k with
  | zero => exact List.prefix_refl _
  | succ k ih => rw [← Nat.add_assoc, wN1]; exact ih.trans (List.prefix_append _ _)
theorem pre_wP (a b : List Pt) {m : Nat} (hm : m ≤ 2) : wP a b m <+: waysI a b := by
  unfold waysI
  match m, hm with
  | 0, _ => rw [wP_succ, wPN, wP_succ, wPN, List.append_assoc]; exact List.prefix_append _ _
  | 1, _ => rw [wP_succ a b 1, wPN]; exact List.prefix_append _ _
  | 2, _ => exact List.prefix_refl _
theorem pre_wPI (a b : List Pt) {m i k : Nat} (hm : m < 2) (hi : i < (LL a b m).length) (hk : k ≤ (LL a b m).length) : wPI a b m i k <+: waysI a b := by
  refine List.IsPrefix.trans ?_ (pre_wP a b (m := m + 1) (by omega))
  rw [wP_succ]
  refine List.IsPrefix.trans (l₂ := wPN a b m (i + 1)) ?_ ?_
  · rw [wPN_succ]
    unfold wPI
    have := pre_wN1 (LL a b m) i (j := k - (i + 1)) ((LL a b m).length - (i + 1) - (k - (i + 1)))
    rw [show k - (i + 1) + ((LL a b m).length - (i + 1) - (k - (i + 1))) = (LL a b m).length - (i + 1) by omega] at this
    exact (List.prefix_append_right_inj _).2 this
  · unfold wPN
    have := pre_wN (LL a b m) (i := i + 1) ((LL a b m).length - (i + 1))
    rw [show i + 1 + ((LL a b m).length - (i + 1)) = (LL a b m).length by omega] at this
    exact (List.prefix_append_right_inj _).2 this
def noS (a b : List Pt) (W : List Pt) : Prop := ∀ d ∈ W, spl a b d = false
theorem noS_snoc {a b W : List Pt} {d : Pt} (h : noS a b W) (hd : spl a b d = false) : noS a b (W ++ [d]) := by
  intro x hx
  rcases List.mem_append.1 hx with h1 | h1
  · exact h x h1
  · rw [List.mem_singleton.1 h1]; exact hd
theorem spl_t {a b : List Pt} {d : Pt} (h : topN a d a.length < -topN b (neg d) b.length) : spl a b d = true := decide_eq_true h
theorem spl_f {a b : List Pt} {d : Pt} (h : -topN b (neg d) b.length ≤ topN a d a.length) : spl a b d = false := decide_eq_false (by omega)
theorem sep_t {a b : List Pt} (ca : chk a = 0) (cb : chk b = 0) (he : ¬(a.length = 0 ∨ b.length = 0)) {pre : List Pt} {d : Pt} (h : pre ++ [d] <+: waysI a b) (h1 : noS a b pre) (h2 : spl a b d = true) : sepR a b = (true, d, topN a d a.length, 0) := by
  unfold sepR
  rw [if_neg (by simp [ca]), if_neg (by simp [cb]), if_neg he, find_pre h h1 h2]
theorem sep_f {a b : List Pt} (ca : chk a = 0) (cb : chk b = 0) (he : ¬(a.length = 0 ∨ b.length = 0)) (h1 : noS a b (waysI a b)) : sepR a b = (false, (0, 0), 0, 0) := by
  unfold sepR
  rw [if_neg (by simp [ca]), if_neg (by simp [cb]), if_neg he, List.find?_eq_none.2 (fun x hx => by rw [h1 x hx]; decide)]
theorem sep_e {a b : List Pt} {m : Nat} (hm : m < 2) (h : chk (LL a b m) ≠ 0) (h0 : ∀ k, k < m → chk (LL a b k) = 0) : sepR a b = (false, (0, 0), 0, chk (LL a b m)) := by
  unfold sepR
  match m, hm with
  | 0, _ => rw [if_pos (show chk a ≠ 0 from h)]; rfl
  | 1, _ => rw [if_neg (show ¬ chk a ≠ 0 from fun hn => hn (h0 0 (by omega))), if_pos (show chk b ≠ 0 from h)]; rfl
theorem noS_two {a b : List Pt} {m s k : Nat} {w : Pt} (h : noS a b (wPI a b m s (s + 1 + k))) (hw : w = sub (P (LL a b m) (s + 1 + k)) (P (LL a b m) s)) (hk : True) (h0 : spl a b (-w.2, w.1) = false) (h1 : spl a b (w.2, -w.1) = false) : noS a b (wPI a b m s (s + 1 + (k + 1))) := by
  rw [← Nat.add_assoc, wPI_succ a b m s (s + 1 + k) (by omega), nrm, ← hw, show [(-w.2, w.1), (w.2, -w.1)] = [(-w.2, w.1)] ++ [(w.2, -w.1)] from rfl, ← List.append_assoc]
  exact noS_snoc (noS_snoc h h0) h1
theorem pre_n1 {a b : List Pt} {m s k : Nat} {w : Pt} (hw : w = sub (P (LL a b m) (s + 1 + k)) (P (LL a b m) s)) (hm : m < 2) (hs : s < (LL a b m).length) (hk : s + 1 + k < (LL a b m).length) : wPI a b m s (s + 1 + k) ++ [(-w.2, w.1)] ++ [(w.2, -w.1)] <+: waysI a b := by
  have := pre_wPI a b (k := s + 1 + k + 1) hm hs (by omega)
  rw [wPI_succ a b m s (s + 1 + k) (by omega), nrm, ← hw] at this
  rw [List.append_assoc]
  exact this
theorem pre_n0 {a b : List Pt} {m s k : Nat} {w : Pt} (hw : w = sub (P (LL a b m) (s + 1 + k)) (P (LL a b m) s)) (hm : m < 2) (hs : s < (LL a b m).length) (hk : s + 1 + k < (LL a b m).length) : wPI a b m s (s + 1 + k) ++ [(-w.2, w.1)] <+: waysI a b :=
  (List.prefix_append _ _).trans (pre_n1 hw hm hs hk)
theorem c23 (a b : List Pt) (hna : a.length < 4611686018427387904) (hnb : b.length < 4611686018427387904) (ha8 : chk a = 0 → a.length ≤ 8) (hb8 : chk b = 0 → b.length ≤ 8) :
    CallsF Try.prog 23 [pts a, pts b] [] (sepV (sepR a b)) [] := by
  have kl : ∀ m, CallsF Try.prog 50 [pts (LL a b m)] [] (.int .i64 (chk (LL a b m))) [] := fun m => by cases m <;> exact c50 _ (by assumption)
  by_cases hall : chk a = 0 ∧ chk b = 0
  · obtain ⟨ca, cb⟩ := hall
    have kl' : ∀ m, CallsF Try.prog 50 [pts (LL a b m)] [] (.int .i64 0) [] := fun m => by
      have := kl m
      cases m with
      | zero => rwa [show chk (LL a b 0) = 0 from ca] at this
      | succ m => rwa [show chk (LL a b (m + 1)) = 0 from cb] at this
    by_cases he : a.length = 0 ∨ b.length = 0
    · have hr : sepR a b = (false, (0, 0), 0, 13) := by unfold sepR; rw [if_neg (by simp [ca]), if_neg (by simp [cb]), if_pos he]
      rw [hr]
      refine callsF_cwx hm hf23 (by simp [cf23]) ?_
      simp only [cf23, argsAl]
      repeat' first
        | (refine hK _ _ _ (by first | exact fun h => Bool.noConfusion h | exact fun _ => rfl) ?_; clear hK K)
        | (refine CWx.r fun K hK => ?_; simp (maxSteps := 4000000) (disch := omega) only [dr0, dr1, dr2, dr3, dr4, if_true, if_false, Option.some.injEq, Nat.reduceEqDiff, Int.reduceToNat, Nat.reduceSub, Nat.reduceAdd, Nat.reduceMul, Nat.reduceLT, Nat.reduceLeDiff, reduceCtorEq, ↓reduceIte, catT, enc0, enc1, if_pos, if_neg, llg])
        | refine CWx.go ?_
        | (apply RCx.view (fid := 50) (caps := []) rfl rfl; (focus ((simp only [evsA, evA_t, evA_c, Am.get, Nat.reduceEqDiff, ↓reduceIte, List.nil_append, List.cons_append, List.append_nil]; repeat' first | exact viewArgs_nil | apply viewArgs_cons | exact viewG_flat (flat_pts _ _) _ | exact viewG_flat (flat_ixV _ _) _ | exact viewG_flat (flat_sv _ _) _ | exact viewG_ixT rfl (by assumption) (by omega) | exact viewG_ptsL rfl (by first | omega | (simp; done) | (simp; omega)) | exact viewG_ix rfl (by first | omega | (simp; omega)) | exact viewG_flat rfl _; done))); (focus (refine kl' m <;> first | omega | assumption)); (focus rfl); simp (maxSteps := 4000000) (disch := omega) only [dr0, dr1, dr2, dr3, dr4, if_true, if_false, Option.some.injEq, Nat.reduceEqDiff, Int.reduceToNat, Nat.reduceSub, Nat.reduceAdd, Nat.reduceMul, Nat.reduceLT, Nat.reduceLeDiff, reduceCtorEq, ↓reduceIte, catT, enc0, enc1, if_pos, if_neg, llg])
        | (refine gX_split (fun hb => ?_) (fun hb => ?_) <;> (try simp only [hb]) <;> (try simp only [bset0, reduceCtorEq] at hb) <;> first | omega | simp (maxSteps := 4000000) (disch := omega) only [dr0, dr1, dr2, dr3, dr4, if_true, if_false, Option.some.injEq, Nat.reduceEqDiff, Int.reduceToNat, Nat.reduceSub, Nat.reduceAdd, Nat.reduceMul, Nat.reduceLT, Nat.reduceLeDiff, reduceCtorEq, ↓reduceIte, catT, enc0, enc1, if_pos, if_neg, llg])
        | (refine CWx.br rfl (fun hb => ?_) (fun hb => ?_) <;> first | exact Bool.noConfusion hb | (first | (simp only [bset0, reduceCtorEq] at hb; done) | ((try simp only [bset0, reduceCtorEq] at hb); first | omega | skip)))
        | (refine CWx.e fun K hK => ?_; simp (maxSteps := 4000000) (disch := omega) only [dr0, dr1, dr2, dr3, dr4, if_true, if_false, Option.some.injEq, Nat.reduceEqDiff, Int.reduceToNat, Nat.reduceSub, Nat.reduceAdd, Nat.reduceMul, Nat.reduceLT, Nat.reduceLeDiff, reduceCtorEq, ↓reduceIte, catT, enc0, enc1, if_pos, if_neg, llg])
        | (refine CWx.block (id := 0) ?_; refine CWx.loopK (ι := Nat) [2, 3, 4, 5, 6, 7, 15, 16, 40] (fun m => 2 - m) (fun m => [(17, .int .i64 (m : Int))]) (fun m => [.row false 0 false 1 [pts a], .row false 0 false 1 [pts b], .row false 0 false 1 [.bool false], .row false 0 false 2 [pt (0, 0)], .row false 0 false 1 [.int .i64 0], .row false 0 false 1 [.int .i64 0], .row false 0 false 1 [pts a, pts b]]) (fun m => m ≤ 2) (fun i => by simp only [keepA, Am.get, List.cons_append, List.nil_append, Nat.reduceEqDiff, ↓reduceIte]; exact rfl) (0) ?_ ?_ (fun m hi => ?_); (focus ((try dsimp only) <;> (first | trivial | omega | (refine ⟨?_, ?_⟩ <;> first | omega | trivial | simp_all) | simp_all); done)); (focus (refine Fgt.mk' 7 (by simp) ?_ ?_ ?_ <;> simp [-List.map_take, -List.map_map, AV.isY, ltL_append, ix_nil, keepB, Am.get, AV.lt, ltL, lt_pts, lt_pt, lt_ixV, ltL_ix, ltL_pt, Blk.lt, ltB]; done)); have Hm := hi; (skip))
        | refine CWx.seq ?_
        | refine CWx.block (id := 1) ?_
        | refine CWx.block (id := 2) ?_
        | refine CWx.block (id := 3) ?_
        | refine CWx.skip ?_
        | refine CWx.exit ?_
        | (refine CWx.ret fun al hal => finK_ext hal (finK_pure (.inr rfl) (by simp only [resRV, Am.get, Nat.reduceEqDiff, ↓reduceIte]; exact rfl) ?_ ?_); (focus (first | (rfl; done) | (rfl; done) | ((simp only [tupAV]; congr <;> omega); done) | (simp [tupAV, *]; done))); (focus (first | rfl | (simp [AV.allR, allRL, allRL_ix]; done))))
        | (intro al hal; refine ⟨m + 1, ?_, ?_, Fgt.ofx hal ?_⟩; (focus (first | omega | (dsimp only; omega))); (focus ((try dsimp only) <;> (first | trivial | omega | (refine ⟨?_, ?_⟩ <;> first | omega | trivial | simp_all) | simp_all); done)); (focus (refine Fgt.mk' 7 (by simp) ?_ ?_ ?_ <;> simp [-List.map_take, -List.map_map, AV.isY, ltL_append, ix_nil, keepB, Am.get, AV.lt, ltL, lt_pts, lt_pt, lt_ixV, ltL_ix, ltL_pt, Blk.lt, ltB]; done)))
    · have ha := ha8 ca
      have hb0 := hb8 cb
      have oka := chk_ok ca
      have okb := chk_ok cb
      have sa : ∀ p ∈ a, smallV p := fun p hp => ok_small (List.all_eq_true.1 oka p hp)
      have sb : ∀ p ∈ b, smallV p := fun p hp => ok_small (List.all_eq_true.1 okb p hp)
      have qa := ok_P oka
      have qb := ok_P okb
      have qL := LL_ok oka okb
      have lL := LL_len ha hb0
      have tb : ∀ d, smallV d → -80000000000 ≤ topN b (neg d) b.length ∧ topN b (neg d) b.length ≤ 80000000000 := fun d hd => top_bd (by omega) sb (neg_small hd) _ (Nat.le_refl _)
      refine callsF_cwx hm hf23 (by simp [cf23]) ?_
      simp only [cf23, argsAl]
      repeat' first
        | (refine hK _ _ _ (by first | exact fun h => Bool.noConfusion h | exact fun _ => rfl) ?_; clear hK K)
        | (refine CWx.r fun K hK => ?_; simp (maxSteps := 4000000) (disch := omega) only [dr0, dr1, dr2, dr3, dr4, if_true, if_false, Option.some.injEq, Nat.reduceEqDiff, Int.reduceToNat, Nat.reduceSub, Nat.reduceAdd, Nat.reduceMul, Nat.reduceLT, Nat.reduceLeDiff, reduceCtorEq, ↓reduceIte, catT, enc0, enc1, if_pos, if_neg, llg, AV.ren, renL, ren_row_p1, frW, Int.zero_sub, List.length_drop, P_drop, quad])
        | refine CWx.go ?_
        | (apply RCx.view (fid := 50) (caps := []) rfl rfl; (focus ((simp only [evsA, evA_t, evA_c, Am.get, Nat.reduceEqDiff, ↓reduceIte, List.nil_append, List.cons_append, List.append_nil]; repeat' first | exact viewArgs_nil | apply viewArgs_cons | exact viewG_flat (flat_pts _ _) _ | exact viewG_flat (flat_ixV _ _) _ | exact viewG_flat (flat_sv _ _) _ | exact viewG_ixT rfl (by assumption) (by omega) | exact viewG_ptsL rfl (by first | omega | (simp; done) | (simp; omega)) | exact viewG_ix rfl (by first | omega | (simp; omega)) | exact viewG_flat rfl _; done))); (focus (refine kl' m0 <;> first | omega | assumption)); (focus rfl); simp (maxSteps := 4000000) (disch := omega) only [dr0, dr1, dr2, dr3, dr4, if_true, if_false, Option.some.injEq, Nat.reduceEqDiff, Int.reduceToNat, Nat.reduceSub, Nat.reduceAdd, Nat.reduceMul, Nat.reduceLT, Nat.reduceLeDiff, reduceCtorEq, ↓reduceIte, catT, enc0, enc1, if_pos, if_neg, llg, AV.ren, renL, ren_row_p1, frW, Int.zero_sub, List.length_drop, P_drop, quad])
        | (refine RCx.plainRs (fid := 67) (caps := []) (args := [pts a, pts b]) rfl rfl (by simp only [ltL, lt_pts, Bool.and_self]) (c67 a b) rfl ?_; simp (maxSteps := 4000000) (disch := omega) only [dr0, dr1, dr2, dr3, dr4, if_true, if_false, Option.some.injEq, Nat.reduceEqDiff, Int.reduceToNat, Nat.reduceSub, Nat.reduceAdd, Nat.reduceMul, Nat.reduceLT, Nat.reduceLeDiff, reduceCtorEq, ↓reduceIte, catT, enc0, enc1, if_pos, if_neg, llg, AV.ren, renL, ren_row_p1, frW, Int.zero_sub, List.length_drop, P_drop, quad])
        | (apply RCx.view (fid := 61) (caps := []) rfl rfl; (focus ((simp only [evsA, evA_t, evA_c, Am.get, Nat.reduceEqDiff, ↓reduceIte, List.nil_append, List.cons_append, List.append_nil]; repeat' first | exact viewArgs_nil | apply viewArgs_cons | exact viewG_flat (flat_pts _ _) _ | exact viewG_flat (flat_ixV _ _) _ | exact viewG_flat (flat_sv _ _) _ | exact viewG_ixT rfl (by assumption) (by omega) | exact viewG_ptsL rfl (by first | omega | (simp; done) | (simp; omega)) | exact viewG_ix rfl (by first | omega | (simp; omega)) | exact viewG_flat rfl _; done))); (focus (refine c61 a _ ?_ hna sa (hsd ?_) <;> first | omega | assumption)); (focus rfl); simp (maxSteps := 4000000) (disch := omega) only [dr0, dr1, dr2, dr3, dr4, if_true, if_false, Option.some.injEq, Nat.reduceEqDiff, Int.reduceToNat, Nat.reduceSub, Nat.reduceAdd, Nat.reduceMul, Nat.reduceLT, Nat.reduceLeDiff, reduceCtorEq, ↓reduceIte, catT, enc0, enc1, if_pos, if_neg, llg, AV.ren, renL, ren_row_p1, frW, Int.zero_sub, List.length_drop, P_drop, quad])
        | (apply RCx.view (fid := 61) (caps := []) rfl rfl; (focus ((simp only [evsA, evA_t, evA_c, Am.get, Nat.reduceEqDiff, ↓reduceIte, List.nil_append, List.cons_append, List.append_nil]; repeat' first | exact viewArgs_nil | apply viewArgs_cons | exact viewG_flat (flat_pts _ _) _ | exact viewG_flat (flat_ixV _ _) _ | exact viewG_flat (flat_sv _ _) _ | exact viewG_ixT rfl (by assumption) (by omega) | exact viewG_ptsL rfl (by first | omega | (simp; done) | (simp; omega)) | exact viewG_ix rfl (by first | omega | (simp; omega)) | exact viewG_flat rfl _; done))); (focus (refine c61 b (neg (sub (P b j) (P a i))) ?_ hnb sb (neg_small (hsd ?_)) <;> first | omega | assumption)); (focus rfl); simp (maxSteps := 4000000) (disch := omega) only [dr0, dr1, dr2, dr3, dr4, if_true, if_false, Option.some.injEq, Nat.reduceEqDiff, Int.reduceToNat, Nat.reduceSub, Nat.reduceAdd, Nat.reduceMul, Nat.reduceLT, Nat.reduceLeDiff, reduceCtorEq, ↓reduceIte, catT, enc0, enc1, if_pos, if_neg, llg, AV.ren, renL, ren_row_p1, frW, Int.zero_sub, List.length_drop, P_drop, quad])
        | (apply RCx.view (fid := 61) (caps := []) rfl rfl; (focus ((simp only [evsA, evA_t, evA_c, Am.get, Nat.reduceEqDiff, ↓reduceIte, List.nil_append, List.cons_append, List.append_nil]; repeat' first | exact viewArgs_nil | apply viewArgs_cons | exact viewG_flat (flat_pts _ _) _ | exact viewG_flat (flat_ixV _ _) _ | exact viewG_flat (flat_sv _ _) _ | exact viewG_ixT rfl (by assumption) (by omega) | exact viewG_ptsL rfl (by first | omega | (simp; done) | (simp; omega)) | exact viewG_ix rfl (by first | omega | (simp; omega)) | exact viewG_flat rfl _; done))); (focus (refine c61 a _ ?_ hna sa (hs0 ?_) <;> first | omega | assumption)); (focus rfl); simp (maxSteps := 4000000) (disch := omega) only [dr0, dr1, dr2, dr3, dr4, if_true, if_false, Option.some.injEq, Nat.reduceEqDiff, Int.reduceToNat, Nat.reduceSub, Nat.reduceAdd, Nat.reduceMul, Nat.reduceLT, Nat.reduceLeDiff, reduceCtorEq, ↓reduceIte, catT, enc0, enc1, if_pos, if_neg, llg, AV.ren, renL, ren_row_p1, frW, Int.zero_sub, List.length_drop, P_drop, quad])
        | (apply RCx.view (fid := 61) (caps := []) rfl rfl; (focus ((simp only [evsA, evA_t, evA_c, Am.get, Nat.reduceEqDiff, ↓reduceIte, List.nil_append, List.cons_append, List.append_nil]; repeat' first | exact viewArgs_nil | apply viewArgs_cons | exact viewG_flat (flat_pts _ _) _ | exact viewG_flat (flat_ixV _ _) _ | exact viewG_flat (flat_sv _ _) _ | exact viewG_ixT rfl (by assumption) (by omega) | exact viewG_ptsL rfl (by first | omega | (simp; done) | (simp; omega)) | exact viewG_ix rfl (by first | omega | (simp; omega)) | exact viewG_flat rfl _; done))); (focus (refine c61 b (neg (-w.2, w.1)) ?_ hnb sb (neg_small (hs0 ?_)) <;> first | omega | assumption)); (focus rfl); simp (maxSteps := 4000000) (disch := omega) only [dr0, dr1, dr2, dr3, dr4, if_true, if_false, Option.some.injEq, Nat.reduceEqDiff, Int.reduceToNat, Nat.reduceSub, Nat.reduceAdd, Nat.reduceMul, Nat.reduceLT, Nat.reduceLeDiff, reduceCtorEq, ↓reduceIte, catT, enc0, enc1, if_pos, if_neg, llg, AV.ren, renL, ren_row_p1, frW, Int.zero_sub, List.length_drop, P_drop, quad])
        | (apply RCx.view (fid := 61) (caps := []) rfl rfl; (focus ((simp only [evsA, evA_t, evA_c, Am.get, Nat.reduceEqDiff, ↓reduceIte, List.nil_append, List.cons_append, List.append_nil]; repeat' first | exact viewArgs_nil | apply viewArgs_cons | exact viewG_flat (flat_pts _ _) _ | exact viewG_flat (flat_ixV _ _) _ | exact viewG_flat (flat_sv _ _) _ | exact viewG_ixT rfl (by assumption) (by omega) | exact viewG_ptsL rfl (by first | omega | (simp; done) | (simp; omega)) | exact viewG_ix rfl (by first | omega | (simp; omega)) | exact viewG_flat rfl _; done))); (focus (refine c61 a _ ?_ hna sa (hs1 ?_) <;> first | omega | assumption)); (focus rfl); simp (maxSteps := 4000000) (disch := omega) only [dr0, dr1, dr2, dr3, dr4, if_true, if_false, Option.some.injEq, Nat.reduceEqDiff, Int.reduceToNat, Nat.reduceSub, Nat.reduceAdd, Nat.reduceMul, Nat.reduceLT, Nat.reduceLeDiff, reduceCtorEq, ↓reduceIte, catT, enc0, enc1, if_pos, if_neg, llg, AV.ren, renL, ren_row_p1, frW, Int.zero_sub, List.length_drop, P_drop, quad])
        | (apply RCx.view (fid := 61) (caps := []) rfl rfl; (focus ((simp only [evsA, evA_t, evA_c, Am.get, Nat.reduceEqDiff, ↓reduceIte, List.nil_append, List.cons_append, List.append_nil]; repeat' first | exact viewArgs_nil | apply viewArgs_cons | exact viewG_flat (flat_pts _ _) _ | exact viewG_flat (flat_ixV _ _) _ | exact viewG_flat (flat_sv _ _) _ | exact viewG_ixT rfl (by assumption) (by omega) | exact viewG_ptsL rfl (by first | omega | (simp; done) | (simp; omega)) | exact viewG_ix rfl (by first | omega | (simp; omega)) | exact viewG_flat rfl _; done))); (focus (refine c61 b (neg (w.2, -w.1)) ?_ hnb sb (neg_small (hs1 ?_)) <;> first | omega | assumption)); (focus rfl); simp (maxSteps := 4000000) (disch := omega) only [dr0, dr1, dr2, dr3, dr4, if_true, if_false, Option.some.injEq, Nat.reduceEqDiff, Int.reduceToNat, Nat.reduceSub, Nat.reduceAdd, Nat.reduceMul, Nat.reduceLT, Nat.reduceLeDiff, reduceCtorEq, ↓reduceIte, catT, enc0, enc1, if_pos, if_neg, llg, AV.ren, renL, ren_row_p1, frW, Int.zero_sub, List.length_drop, P_drop, quad])
        | (apply RCx.view (fid := 57) (caps := []) rfl rfl; (focus ((simp only [evsA, evA_t, evA_c, Am.get, Nat.reduceEqDiff, ↓reduceIte, List.nil_append, List.cons_append, List.append_nil]; repeat' first | exact viewArgs_nil | apply viewArgs_cons | exact viewG_flat (flat_pts _ _) _ | exact viewG_flat (flat_ixV _ _) _ | exact viewG_flat (flat_sv _ _) _ | exact viewG_ixT rfl (by assumption) (by omega) | exact viewG_ptsL rfl (by first | omega | (simp; done) | (simp; omega)) | exact viewG_ix rfl (by first | omega | (simp; omega)) | exact viewG_flat rfl _; done))); (focus (refine c57' (qb _ ?_) (qa _ ?_) <;> first | omega | assumption)); (focus rfl); simp (maxSteps := 4000000) (disch := omega) only [dr0, dr1, dr2, dr3, dr4, if_true, if_false, Option.some.injEq, Nat.reduceEqDiff, Int.reduceToNat, Nat.reduceSub, Nat.reduceAdd, Nat.reduceMul, Nat.reduceLT, Nat.reduceLeDiff, reduceCtorEq, ↓reduceIte, catT, enc0, enc1, if_pos, if_neg, llg, AV.ren, renL, ren_row_p1, frW, Int.zero_sub, List.length_drop, P_drop, quad])
        | (apply RCx.view (fid := 95) (caps := []) rfl rfl; (focus ((simp only [evsA, evA_t, evA_c, Am.get, Nat.reduceEqDiff, ↓reduceIte, List.nil_append, List.cons_append, List.append_nil]; repeat' first | exact viewArgs_nil | apply viewArgs_cons | exact viewG_flat (flat_pts _ _) _ | exact viewG_flat (flat_ixV _ _) _ | exact viewG_flat (flat_sv _ _) _ | exact viewG_ixT rfl (by assumption) (by omega) | exact viewG_ptsL rfl (by first | omega | (simp; done) | (simp; omega)) | exact viewG_ix rfl (by first | omega | (simp; omega)) | exact viewG_flat rfl _; done))); (focus (refine k95 ?_ <;> first | omega | assumption)); (focus rfl); simp (maxSteps := 4000000) (disch := omega) only [dr0, dr1, dr2, dr3, dr4, if_true, if_false, Option.some.injEq, Nat.reduceEqDiff, Int.reduceToNat, Nat.reduceSub, Nat.reduceAdd, Nat.reduceMul, Nat.reduceLT, Nat.reduceLeDiff, reduceCtorEq, ↓reduceIte, catT, enc0, enc1, if_pos, if_neg, llg, AV.ren, renL, ren_row_p1, frW, Int.zero_sub, List.length_drop, P_drop, quad])
        | (refine gX_split (fun hb => ?_) (fun hb => ?_) <;> (try simp only [hb]) <;> (try simp only [bset0, reduceCtorEq] at hb) <;> simp (maxSteps := 4000000) (disch := omega) only [dr0, dr1, dr2, dr3, dr4, if_true, if_false, Option.some.injEq, Nat.reduceEqDiff, Int.reduceToNat, Nat.reduceSub, Nat.reduceAdd, Nat.reduceMul, Nat.reduceLT, Nat.reduceLeDiff, reduceCtorEq, ↓reduceIte, catT, enc0, enc1, if_pos, if_neg, llg, AV.ren, renL, ren_row_p1, frW, Int.zero_sub, List.length_drop, P_drop, quad])
        | (refine CWx.br rfl (fun hb => ?_) (fun hb => ?_) <;> first | exact Bool.noConfusion hb | (first | (simp only [bset0, reduceCtorEq] at hb; done) | ((try simp only [bset0, reduceCtorEq] at hb); first | contradiction | skip)))
        | (refine CWx.e fun K hK => ?_; simp (maxSteps := 4000000) (disch := omega) only [dr0, dr1, dr2, dr3, dr4, if_true, if_false, Option.some.injEq, Nat.reduceEqDiff, Int.reduceToNat, Nat.reduceSub, Nat.reduceAdd, Nat.reduceMul, Nat.reduceLT, Nat.reduceLeDiff, reduceCtorEq, ↓reduceIte, catT, enc0, enc1, if_pos, if_neg, llg, AV.ren, renL, ren_row_p1, frW, Int.zero_sub, List.length_drop, P_drop, quad])
        | (refine CWx.block (id := 0) ?_; refine CWx.loopK (ι := Nat) [2, 3, 4, 5, 6, 7, 15, 16, 40] (fun m0 => 2 - m0) (fun m0 => [(17, .int .i64 (m0 : Int))]) (fun m0 => [.row false 0 false 1 [pts a], .row false 0 false 1 [pts b], .row false 0 false 1 [.bool false], .row false 0 false 2 [pt (0, 0)], .row false 0 false 1 [.int .i64 0], .row false 0 false 1 [.int .i64 0], .row false 0 false 1 [pts a, pts b]]) (fun m0 => m0 ≤ 2) (fun i => by simp only [keepA, Am.get, List.cons_append, List.nil_append, Nat.reduceEqDiff, ↓reduceIte]; exact rfl) (0) ?_ ?_ (fun m0 hi => ?_); (focus ((try dsimp only) <;> (first | trivial | omega | (refine ⟨?_, ?_⟩ <;> first | omega | trivial | simp_all) | simp_all); done)); (focus (refine Fgt.mk' 7 (by simp) ?_ ?_ ?_ <;> simp [-List.map_take, -List.map_map, AV.isY, ltL_append, ix_nil, keepB, Am.get, AV.lt, ltL, lt_pts, lt_pt, lt_ixV, ltL_ix, ltL_pt, Blk.lt, ltB]; done)); have Hm0 := hi; (skip))
        | refine CWx.seq ?_
        | refine CWx.block (id := 1) ?_
        | refine CWx.block (id := 2) ?_
        | refine CWx.block (id := 3) ?_
        | refine CWx.skip ?_
        | refine CWx.exit ?_
        | (refine CWx.ret fun al hal => finK_ext hal (finK_pure (.inr rfl) (by simp only [resRV, Am.get, Nat.reduceEqDiff, ↓reduceIte]; exact rfl) ?_ ?_); (focus (first | ((rw [sep_t ca cb he (pre := wPI a b m s (s + 1 + k)) (d := (-w.2, w.1)) (pre_n0 hw (by omega) (by omega) (by omega)) hi.2 (spl_t (by assumption))]; rfl); done) | ((rw [sep_t ca cb he (pre := wPI a b m s (s + 1 + k) ++ [(-w.2, w.1)]) (d := (w.2, -w.1)) (pre_n1 hw (by omega) (by omega) (by omega)) (noS_snoc hi.2 (spl_f (by assumption))) (spl_t (by assumption))]; rfl); done) | ((rw [sep_f ca cb he (by rw [waysI, show 2 = m by omega]; exact hi.2)]; rfl); done) | ((rw [sep_t ca cb he (pre := wI a b i j) (d := sub (P b j) (P a i)) (by rw [← wI_succ a b i j (by omega)]; exact pre_wI a b (by omega) (by omega)) hi.2 (spl_t (by assumption))]; rfl); done) | (rfl; done) | ((simp only [tupAV]; congr <;> omega); done) | (simp [tupAV, *]; done))); (focus (first | rfl | (simp [AV.allR, allRL, allRL_ix]; done))))
        | (intro al hal; refine ⟨m0 + 1, ?_, ?_, Fgt.ofx hal ?_⟩; (focus (first | omega | (dsimp only; omega))); (focus ((try dsimp only) <;> (first | trivial | omega | (refine ⟨?_, ?_⟩ <;> first | omega | trivial | simp_all) | simp_all); done)); (focus (refine Fgt.mk' 7 (by simp) ?_ ?_ ?_ <;> simp [-List.map_take, -List.map_map, AV.isY, ltL_append, ix_nil, keepB, Am.get, AV.lt, ltL, lt_pts, lt_pt, lt_ixV, ltL_ix, ltL_pt, Blk.lt, ltB]; done)))
        | (refine hK _ _ _ ?_; clear hK K)
        | (refine CYx.r fun K hK => ?_; simp (maxSteps := 4000000) (disch := omega) only [drY, Option.isNone_none, Option.isNone_some, dr0, dr1, dr2, dr3, dr4, if_true, if_false, Option.some.injEq, Nat.reduceEqDiff, Int.reduceToNat, Nat.reduceSub, Nat.reduceAdd, Nat.reduceMul, Nat.reduceLT, Nat.reduceLeDiff, reduceCtorEq, ↓reduceIte, catT, enc0, enc1, if_pos, if_neg, llg, AV.ren, renL, ren_row_p1, frW, Int.zero_sub, List.length_drop, P_drop, quad])
        | (refine CYx.e fun K hK => ?_; simp (maxSteps := 4000000) (disch := omega) only [drY, Option.isNone_none, Option.isNone_some, dr0, dr1, dr2, dr3, dr4, if_true, if_false, Option.some.injEq, Nat.reduceEqDiff, Int.reduceToNat, Nat.reduceSub, Nat.reduceAdd, Nat.reduceMul, Nat.reduceLT, Nat.reduceLeDiff, reduceCtorEq, ↓reduceIte, catT, enc0, enc1, if_pos, if_neg, llg, AV.ren, renL, ren_row_p1, frW, Int.zero_sub, List.length_drop, P_drop, quad])
        | (refine hK1 _ _ _ ?_; clear hK1 K1)
        | (refine hK _ _ _ rfl ?_; clear hK K; simp only [List.drop]; simp (maxSteps := 4000000) (disch := omega) only [drY, Option.isNone_none, Option.isNone_some, dr0, dr1, dr2, dr3, dr4, if_true, if_false, Option.some.injEq, Nat.reduceEqDiff, Int.reduceToNat, Nat.reduceSub, Nat.reduceAdd, Nat.reduceMul, Nat.reduceLT, Nat.reduceLeDiff, reduceCtorEq, ↓reduceIte, catT, enc0, enc1, if_pos, if_neg, llg, AV.ren, renL, ren_row_p1, frW, Int.zero_sub, List.length_drop, P_drop, quad])
        | refine CYx.go ?_
        | refine CWx.goY ?_
        | (refine YCx.call ?_; apply RCx.view (fid := 50) (caps := []) rfl rfl; (focus ((simp only [evsA, evA_t, evA_c, Am.get, Nat.reduceEqDiff, ↓reduceIte, List.nil_append, List.cons_append, List.append_nil]; repeat' first | exact viewArgs_nil | apply viewArgs_cons | exact viewG_flat (flat_pts _ _) _ | exact viewG_flat (flat_ixV _ _) _ | exact viewG_flat (flat_sv _ _) _ | exact viewG_ixT rfl (by assumption) (by omega) | exact viewG_ptsL rfl (by first | omega | (simp; done) | (simp; omega)) | exact viewG_ix rfl (by first | omega | (simp; omega)) | exact viewG_flat rfl _; done))); (focus (refine kl' m0 <;> first | omega | assumption)); (focus rfl); simp (maxSteps := 4000000) (disch := omega) only [drY, Option.isNone_none, Option.isNone_some, dr0, dr1, dr2, dr3, dr4, if_true, if_false, Option.some.injEq, Nat.reduceEqDiff, Int.reduceToNat, Nat.reduceSub, Nat.reduceAdd, Nat.reduceMul, Nat.reduceLT, Nat.reduceLeDiff, reduceCtorEq, ↓reduceIte, catT, enc0, enc1, if_pos, if_neg, llg, AV.ren, renL, ren_row_p1, frW, Int.zero_sub, List.length_drop, P_drop, quad])
        | (refine YCx.call ?_; refine RCx.plainRs (fid := 67) (caps := []) (args := [pts a, pts b]) rfl rfl (by simp only [ltL, lt_pts, Bool.and_self]) (c67 a b) rfl ?_; simp (maxSteps := 4000000) (disch := omega) only [drY, Option.isNone_none, Option.isNone_some, dr0, dr1, dr2, dr3, dr4, if_true, if_false, Option.some.injEq, Nat.reduceEqDiff, Int.reduceToNat, Nat.reduceSub, Nat.reduceAdd, Nat.reduceMul, Nat.reduceLT, Nat.reduceLeDiff, reduceCtorEq, ↓reduceIte, catT, enc0, enc1, if_pos, if_neg, llg, AV.ren, renL, ren_row_p1, frW, Int.zero_sub, List.length_drop, P_drop, quad])
        | (refine YCx.call ?_; apply RCx.view (fid := 61) (caps := []) rfl rfl; (focus ((simp only [evsA, evA_t, evA_c, Am.get, Nat.reduceEqDiff, ↓reduceIte, List.nil_append, List.cons_append, List.append_nil]; repeat' first | exact viewArgs_nil | apply viewArgs_cons | exact viewG_flat (flat_pts _ _) _ | exact viewG_flat (flat_ixV _ _) _ | exact viewG_flat (flat_sv _ _) _ | exact viewG_ixT rfl (by assumption) (by omega) | exact viewG_ptsL rfl (by first | omega | (simp; done) | (simp; omega)) | exact viewG_ix rfl (by first | omega | (simp; omega)) | exact viewG_flat rfl _; done))); (focus (refine c61 a _ ?_ hna sa (hsd ?_) <;> first | omega | assumption)); (focus rfl); simp (maxSteps := 4000000) (disch := omega) only [drY, Option.isNone_none, Option.isNone_some, dr0, dr1, dr2, dr3, dr4, if_true, if_false, Option.some.injEq, Nat.reduceEqDiff, Int.reduceToNat, Nat.reduceSub, Nat.reduceAdd, Nat.reduceMul, Nat.reduceLT, Nat.reduceLeDiff, reduceCtorEq, ↓reduceIte, catT, enc0, enc1, if_pos, if_neg, llg, AV.ren, renL, ren_row_p1, frW, Int.zero_sub, List.length_drop, P_drop, quad])
        | (refine YCx.call ?_; apply RCx.view (fid := 61) (caps := []) rfl rfl; (focus ((simp only [evsA, evA_t, evA_c, Am.get, Nat.reduceEqDiff, ↓reduceIte, List.nil_append, List.cons_append, List.append_nil]; repeat' first | exact viewArgs_nil | apply viewArgs_cons | exact viewG_flat (flat_pts _ _) _ | exact viewG_flat (flat_ixV _ _) _ | exact viewG_flat (flat_sv _ _) _ | exact viewG_ixT rfl (by assumption) (by omega) | exact viewG_ptsL rfl (by first | omega | (simp; done) | (simp; omega)) | exact viewG_ix rfl (by first | omega | (simp; omega)) | exact viewG_flat rfl _; done))); (focus (refine c61 b (neg (sub (P b j) (P a i))) ?_ hnb sb (neg_small (hsd ?_)) <;> first | omega | assumption)); (focus rfl); simp (maxSteps := 4000000) (disch := omega) only [drY, Option.isNone_none, Option.isNone_some, dr0, dr1, dr2, dr3, dr4, if_true, if_false, Option.some.injEq, Nat.reduceEqDiff, Int.reduceToNat, Nat.reduceSub, Nat.reduceAdd, Nat.reduceMul, Nat.reduceLT, Nat.reduceLeDiff, reduceCtorEq, ↓reduceIte, catT, enc0, enc1, if_pos, if_neg, llg, AV.ren, renL, ren_row_p1, frW, Int.zero_sub, List.length_drop, P_drop, quad])
        | (refine YCx.call ?_; apply RCx.view (fid := 61) (caps := []) rfl rfl; (focus ((simp only [evsA, evA_t, evA_c, Am.get, Nat.reduceEqDiff, ↓reduceIte, List.nil_append, List.cons_append, List.append_nil]; repeat' first | exact viewArgs_nil | apply viewArgs_cons | exact viewG_flat (flat_pts _ _) _ | exact viewG_flat (flat_ixV _ _) _ | exact viewG_flat (flat_sv _ _) _ | exact viewG_ixT rfl (by assumption) (by omega) | exact viewG_ptsL rfl (by first | omega | (simp; done) | (simp; omega)) | exact viewG_ix rfl (by first | omega | (simp; omega)) | exact viewG_flat rfl _; done))); (focus (refine c61 a _ ?_ hna sa (hs0 ?_) <;> first | omega | assumption)); (focus rfl); simp (maxSteps := 4000000) (disch := omega) only [drY, Option.isNone_none, Option.isNone_some, dr0, dr1, dr2, dr3, dr4, if_true, if_false, Option.some.injEq, Nat.reduceEqDiff, Int.reduceToNat, Nat.reduceSub, Nat.reduceAdd, Nat.reduceMul, Nat.reduceLT, Nat.reduceLeDiff, reduceCtorEq, ↓reduceIte, catT, enc0, enc1, if_pos, if_neg, llg, AV.ren, renL, ren_row_p1, frW, Int.zero_sub, List.length_drop, P_drop, quad])
        | (refine YCx.call ?_; apply RCx.view (fid := 61) (caps := []) rfl rfl; (focus ((simp only [evsA, evA_t, evA_c, Am.get, Nat.reduceEqDiff, ↓reduceIte, List.nil_append, List.cons_append, List.append_nil]; repeat' first | exact viewArgs_nil | apply viewArgs_cons | exact viewG_flat (flat_pts _ _) _ | exact viewG_flat (flat_ixV _ _) _ | exact viewG_flat (flat_sv _ _) _ | exact viewG_ixT rfl (by assumption) (by omega) | exact viewG_ptsL rfl (by first | omega | (simp; done) | (simp; omega)) | exact viewG_ix rfl (by first | omega | (simp; omega)) | exact viewG_flat rfl _; done))); (focus (refine c61 b (neg (-w.2, w.1)) ?_ hnb sb (neg_small (hs0 ?_)) <;> first | omega | assumption)); (focus rfl); simp (maxSteps := 4000000) (disch := omega) only [drY, Option.isNone_none, Option.isNone_some, dr0, dr1, dr2, dr3, dr4, if_true, if_false, Option.some.injEq, Nat.reduceEqDiff, Int.reduceToNat, Nat.reduceSub, Nat.reduceAdd, Nat.reduceMul, Nat.reduceLT, Nat.reduceLeDiff, reduceCtorEq, ↓reduceIte, catT, enc0, enc1, if_pos, if_neg, llg, AV.ren, renL, ren_row_p1, frW, Int.zero_sub, List.length_drop, P_drop, quad])
        | (refine YCx.call ?_; apply RCx.view (fid := 61) (caps := []) rfl rfl; (focus ((simp only [evsA, evA_t, evA_c, Am.get, Nat.reduceEqDiff, ↓reduceIte, List.nil_append, List.cons_append, List.append_nil]; repeat' first | exact viewArgs_nil | apply viewArgs_cons | exact viewG_flat (flat_pts _ _) _ | exact viewG_flat (flat_ixV _ _) _ | exact viewG_flat (flat_sv _ _) _ | exact viewG_ixT rfl (by assumption) (by omega) | exact viewG_ptsL rfl (by first | omega | (simp; done) | (simp; omega)) | exact viewG_ix rfl (by first | omega | (simp; omega)) | exact viewG_flat rfl _; done))); (focus (refine c61 a _ ?_ hna sa (hs1 ?_) <;> first | omega | assumption)); (focus rfl); simp (maxSteps := 4000000) (disch := omega) only [drY, Option.isNone_none, Option.isNone_some, dr0, dr1, dr2, dr3, dr4, if_true, if_false, Option.some.injEq, Nat.reduceEqDiff, Int.reduceToNat, Nat.reduceSub, Nat.reduceAdd, Nat.reduceMul, Nat.reduceLT, Nat.reduceLeDiff, reduceCtorEq, ↓reduceIte, catT, enc0, enc1, if_pos, if_neg, llg, AV.ren, renL, ren_row_p1, frW, Int.zero_sub, List.length_drop, P_drop, quad])
        | (refine YCx.call ?_; apply RCx.view (fid := 61) (caps := []) rfl rfl; (focus ((simp only [evsA, evA_t, evA_c, Am.get, Nat.reduceEqDiff, ↓reduceIte, List.nil_append, List.cons_append, List.append_nil]; repeat' first | exact viewArgs_nil | apply viewArgs_cons | exact viewG_flat (flat_pts _ _) _ | exact viewG_flat (flat_ixV _ _) _ | exact viewG_flat (flat_sv _ _) _ | exact viewG_ixT rfl (by assumption) (by omega) | exact viewG_ptsL rfl (by first | omega | (simp; done) | (simp; omega)) | exact viewG_ix rfl (by first | omega | (simp; omega)) | exact viewG_flat rfl _; done))); (focus (refine c61 b (neg (w.2, -w.1)) ?_ hnb sb (neg_small (hs1 ?_)) <;> first | omega | assumption)); (focus rfl); simp (maxSteps := 4000000) (disch := omega) only [drY, Option.isNone_none, Option.isNone_some, dr0, dr1, dr2, dr3, dr4, if_true, if_false, Option.some.injEq, Nat.reduceEqDiff, Int.reduceToNat, Nat.reduceSub, Nat.reduceAdd, Nat.reduceMul, Nat.reduceLT, Nat.reduceLeDiff, reduceCtorEq, ↓reduceIte, catT, enc0, enc1, if_pos, if_neg, llg, AV.ren, renL, ren_row_p1, frW, Int.zero_sub, List.length_drop, P_drop, quad])
        | (refine YCx.call ?_; apply RCx.view (fid := 57) (caps := []) rfl rfl; (focus ((simp only [evsA, evA_t, evA_c, Am.get, Nat.reduceEqDiff, ↓reduceIte, List.nil_append, List.cons_append, List.append_nil]; repeat' first | exact viewArgs_nil | apply viewArgs_cons | exact viewG_flat (flat_pts _ _) _ | exact viewG_flat (flat_ixV _ _) _ | exact viewG_flat (flat_sv _ _) _ | exact viewG_ixT rfl (by assumption) (by omega) | exact viewG_ptsL rfl (by first | omega | (simp; done) | (simp; omega)) | exact viewG_ix rfl (by first | omega | (simp; omega)) | exact viewG_flat rfl _; done))); (focus (refine c57' (qb _ ?_) (qa _ ?_) <;> first | omega | assumption)); (focus rfl); simp (maxSteps := 4000000) (disch := omega) only [drY, Option.isNone_none, Option.isNone_some, dr0, dr1, dr2, dr3, dr4, if_true, if_false, Option.some.injEq, Nat.reduceEqDiff, Int.reduceToNat, Nat.reduceSub, Nat.reduceAdd, Nat.reduceMul, Nat.reduceLT, Nat.reduceLeDiff, reduceCtorEq, ↓reduceIte, catT, enc0, enc1, if_pos, if_neg, llg, AV.ren, renL, ren_row_p1, frW, Int.zero_sub, List.length_drop, P_drop, quad])
        | (refine YCx.call ?_; apply RCx.view (fid := 95) (caps := []) rfl rfl; (focus ((simp only [evsA, evA_t, evA_c, Am.get, Nat.reduceEqDiff, ↓reduceIte, List.nil_append, List.cons_append, List.append_nil]; repeat' first | exact viewArgs_nil | apply viewArgs_cons | exact viewG_flat (flat_pts _ _) _ | exact viewG_flat (flat_ixV _ _) _ | exact viewG_flat (flat_sv _ _) _ | exact viewG_ixT rfl (by assumption) (by omega) | exact viewG_ptsL rfl (by first | omega | (simp; done) | (simp; omega)) | exact viewG_ix rfl (by first | omega | (simp; omega)) | exact viewG_flat rfl _; done))); (focus (refine k95 ?_ <;> first | omega | assumption)); (focus rfl); simp (maxSteps := 4000000) (disch := omega) only [drY, Option.isNone_none, Option.isNone_some, dr0, dr1, dr2, dr3, dr4, if_true, if_false, Option.some.injEq, Nat.reduceEqDiff, Int.reduceToNat, Nat.reduceSub, Nat.reduceAdd, Nat.reduceMul, Nat.reduceLT, Nat.reduceLeDiff, reduceCtorEq, ↓reduceIte, catT, enc0, enc1, if_pos, if_neg, llg, AV.ren, renL, ren_row_p1, frW, Int.zero_sub, List.length_drop, P_drop, quad])
        | refine YCx.yieldL hYy haly rfl rfl rfl (by simp only [evsA, evA_t, evA_c, Am.get, setPs, Am.set, Nat.reduceEqDiff, ↓reduceIte]; exact rfl) ?_
        | (refine gY_split _ _ _ _ _ _ _ (fun hb => ?_) (fun hb => ?_) <;> (try simp only [hb]) <;> (try simp only [bset0, reduceCtorEq] at hb) <;> simp (maxSteps := 4000000) (disch := omega) only [drY, Option.isNone_none, Option.isNone_some, dr0, dr1, dr2, dr3, dr4, if_true, if_false, Option.some.injEq, Nat.reduceEqDiff, Int.reduceToNat, Nat.reduceSub, Nat.reduceAdd, Nat.reduceMul, Nat.reduceLT, Nat.reduceLeDiff, reduceCtorEq, ↓reduceIte, catT, enc0, enc1, if_pos, if_neg, llg, AV.ren, renL, ren_row_p1, frW, Int.zero_sub, List.length_drop, P_drop, quad])
        | (refine CYx.br rfl (fun hb => ?_) (fun hb => ?_) <;> first | exact Bool.noConfusion hb | (first | (simp only [bset0, reduceCtorEq] at hb; done) | ((try simp only [bset0, reduceCtorEq] at hb); first | contradiction | skip)))
        | (intro al2 hal2; show RYX _ _ _ _ _ _ _; simp (maxSteps := 4000000) (disch := omega) only [drY, Option.isNone_none, Option.isNone_some, dr0, dr1, dr2, dr3, dr4, if_true, if_false, Option.some.injEq, Nat.reduceEqDiff, Int.reduceToNat, Nat.reduceSub, Nat.reduceAdd, Nat.reduceMul, Nat.reduceLT, Nat.reduceLeDiff, reduceCtorEq, ↓reduceIte, catT, enc0, enc1, if_pos, if_neg, llg, AV.ren, renL, ren_row_p1, frW, Int.zero_sub, List.length_drop, P_drop, quad])
        | (refine CWx.ret fun al2 hal2 => ?_; show RYX _ _ _ _ _ _ _; simp (maxSteps := 4000000) (disch := omega) only [drY, Option.isNone_none, Option.isNone_some, dr0, dr1, dr2, dr3, dr4, if_true, if_false, Option.some.injEq, Nat.reduceEqDiff, Int.reduceToNat, Nat.reduceSub, Nat.reduceAdd, Nat.reduceMul, Nat.reduceLT, Nat.reduceLeDiff, reduceCtorEq, ↓reduceIte, catT, enc0, enc1, if_pos, if_neg, llg, AV.ren, renL, ren_row_p1, frW, Int.zero_sub, List.length_drop, P_drop, quad])
        | refine CYx.ret fun al2 hal2 => rangeEndN (.inr rfl) (by first | rfl | simp) (by simp only [List.length_cons, List.length_nil, Nat.reduceAdd, List.take]; exact rfl) (by simp [ltB, Blk.lt, ltL, AV.lt, lt_pts, lt_pt, lt_ixV, ltL_ix, ltL_pt]) haly ?_
        | refine CYx.ret fun al2 hal2 => rangeEndR (.inr rfl) (by first | rfl | simp) (by simp only [List.length_cons, List.length_nil, Nat.reduceAdd, List.take]; exact rfl) (by simp [ltB, Blk.lt, ltL, AV.lt, lt_pts, lt_pt, lt_ixV, ltL_ix, ltL_pt]) haly ?_
        | refine CYx.ret fun al2 hal2 => rangeEndX (.inr rfl) (by first | rfl | simp) (by simp only [List.length_cons, List.length_nil, Nat.reduceAdd, List.take]; exact rfl) (by simp [ltB, Blk.lt, ltL, AV.lt, lt_pts, lt_pt, lt_ixV, ltL_ix, ltL_pt]) haly ?_
        | refine fun al2 hal2 => rangeEndN (.inl rfl) (by first | rfl | simp) (by simp only [List.length_cons, List.length_nil, Nat.reduceAdd, List.take]; exact rfl) (by simp [ltB, Blk.lt, ltL, AV.lt, lt_pts, lt_pt, lt_ixV, ltL_ix, ltL_pt]) haly ?_
        | refine fun al2 hal2 => rangeEndR (.inl rfl) (by first | rfl | simp) (by simp only [List.length_cons, List.length_nil, Nat.reduceAdd, List.take]; exact rfl) (by simp [ltB, Blk.lt, ltL, AV.lt, lt_pts, lt_pt, lt_ixV, ltL_ix, ltL_pt]) haly ?_
        | refine fun al2 hal2 => rangeEndX (.inl rfl) (by first | rfl | simp) (by simp only [List.length_cons, List.length_nil, Nat.reduceAdd, List.take]; exact rfl) (by simp [ltB, Blk.lt, ltL, AV.lt, lt_pts, lt_pt, lt_ixV, ltL_ix, ltL_pt]) haly ?_
        | refine CYx.seq ?_
        | (refine CWx.range (fid := 97) rfl hf97 (by simp [cf97]) fun aly haly Yy hYy => ?_; simp only [cf97, argsAl])
        | (refine CYx.block (id := 0) ?_; refine CYx.loopK (ι := Nat) [0, 1, 2, 15, 16] (fun i => a.length - i) (fun i => [(17, .int .i64 (i : Int))]) (fun i => [.row false 0 false 1 [pts a], .row false 0 false 1 [pts b], .row false 0 false 1 [.bool false], .row false 0 false 2 [pt (0, 0)], .row false 0 false 1 [.int .i64 0], .row false 0 false 1 [.int .i64 0], .row false 0 false 1 [pts a, pts b], .row false 0 false 1 [pts a], .row false 0 false 1 [pts b]]) (fun i => i ≤ a.length ∧ noS a b (wA a b i)) (fun i => by simp only [keepA, Am.get, List.cons_append, List.nil_append, Nat.reduceEqDiff, ↓reduceIte]; exact rfl) (0) ?_ ?_ (fun i hi => ?_); (focus (exact ⟨Nat.zero_le _, fun d hd => by simp [wA_zero] at hd⟩; done)); (focus (refine Fgt.mk' 9 (by simp) ?_ ?_ ?_ <;> simp [-List.map_take, -List.map_map, AV.isY, ltL_append, ix_nil, keepB, Am.get, AV.lt, ltL, lt_pts, lt_pt, lt_ixV, ltL_ix, ltL_pt, Blk.lt, ltB]; done)); have Hi := hi; (skip))
        | (refine CYx.block (id := 2) ?_; refine CYx.loopK (ι := Nat) [0, 1, 2, 5, 15, 16, 17, 21, 22] (fun j => b.length - j) (fun j => [(23, .int .i64 (j : Int))]) (fun j => [.row false 0 false 1 [pts a], .row false 0 false 1 [pts b], .row false 0 false 1 [.bool false], .row false 0 false 2 [pt (0, 0)], .row false 0 false 1 [.int .i64 0], .row false 0 false 1 [.int .i64 0], .row false 0 false 1 [pts a, pts b], .row false 0 false 1 [pts a], .row false 0 false 1 [pts b], .row false 0 false 2 [pt (P a i)]]) (fun j => j ≤ b.length ∧ noS a b (wI a b i j)) (fun i => by simp only [keepA, Am.get, List.cons_append, List.nil_append, Nat.reduceEqDiff, ↓reduceIte]; exact rfl) (0) ?_ ?_ (fun j hi => ?_); (focus (exact ⟨Nat.zero_le _, by rw [wI_zero]; exact hi.2⟩; done)); (focus (refine Fgt.mk' 10 (by simp) ?_ ?_ ?_ <;> simp [-List.map_take, -List.map_map, AV.isY, ltL_append, ix_nil, keepB, Am.get, AV.lt, ltL, lt_pts, lt_pt, lt_ixV, ltL_ix, ltL_pt, Blk.lt, ltB]; done)); have Hj := hi; ((have hsd : j < b.length → smallV (sub (P b j) (P a i)) := fun h => sub_small (qb _ h) (qa _ (by omega))); (have tbd : j < b.length → -80000000000 ≤ topN b (neg (sub (P b j) (P a i))) b.length ∧ topN b (neg (sub (P b j) (P a i))) b.length ≤ 80000000000 := fun h => tb _ (hsd h)); (have hsv : j < b.length → (-200000 ≤ (sub (P b j) (P a i)).1 ∧ (sub (P b j) (P a i)).1 ≤ 200000) ∧ (-200000 ≤ (sub (P b j) (P a i)).2 ∧ (sub (P b j) (P a i)).2 ≤ 200000) := hsd)))
        | (refine CYx.block (id := 4) ?_; refine CYx.loopK (ι := Nat) [0, 37, 38] (fun m => 2 - m) (fun m => [(39, .int .i64 (m : Int))]) (fun m => [.row false 0 false 1 [pts a], .row false 0 false 1 [pts b], .row false 0 false 1 [.bool false], .row false 0 false 2 [pt (0, 0)], .row false 0 false 1 [.int .i64 0], .row false 0 false 1 [.int .i64 0], .row false 0 false 1 [pts a, pts b], .row false 0 false 1 [pts a], .row false 0 false 1 [pts b], .row false 0 false 1 [pts a, pts b]]) (fun m => m ≤ 2 ∧ noS a b (wP a b m)) (fun i => by simp only [keepA, Am.get, List.cons_append, List.nil_append, Nat.reduceEqDiff, ↓reduceIte]; exact rfl) (0) ?_ ?_ (fun m hi => ?_); (focus (exact ⟨Nat.zero_le _, by rw [wP_zero, show a.length = i by omega]; exact hi.2⟩; done)); (focus (refine Fgt.mk' 10 (by simp) ?_ ?_ ?_ <;> simp [-List.map_take, -List.map_map, AV.isY, ltL_append, ix_nil, keepB, Am.get, AV.lt, ltL, lt_pts, lt_pt, lt_ixV, ltL_ix, ltL_pt, Blk.lt, ltB]; done)); have Hm := hi; (skip))
        | (refine CYx.block (id := 6) ?_; refine CYx.loopK (ι := Nat) [0, 9, 37, 38, 39, 43, 44] (fun s => (LL a b m).length - s) (fun s => [(45, .int .i64 (s : Int))]) (fun s => [.row false 0 false 1 [pts a], .row false 0 false 1 [pts b], .row false 0 false 1 [.bool false], .row false 0 false 2 [pt (0, 0)], .row false 0 false 1 [.int .i64 0], .row false 0 false 1 [.int .i64 0], .row false 0 false 1 [pts a, pts b], .row false 0 false 1 [pts a], .row false 0 false 1 [pts b], .row false 0 false 1 [pts a, pts b]]) (fun s => s ≤ (LL a b m).length ∧ noS a b (wPN a b m s)) (fun i => by simp only [keepA, Am.get, List.cons_append, List.nil_append, Nat.reduceEqDiff, ↓reduceIte]; exact rfl) (0) ?_ ?_ (fun s hi => ?_); (focus (exact ⟨Nat.zero_le _, by rw [wPN_zero]; exact hi.2⟩; done)); (focus (refine Fgt.mk' 10 (by simp) ?_ ?_ ?_ <;> simp [-List.map_take, -List.map_map, AV.isY, ltL_append, ix_nil, keepB, Am.get, AV.lt, ltL, lt_pts, lt_pt, lt_ixV, ltL_ix, ltL_pt, Blk.lt, ltB]; done)); have Hs := hi; ((have lm := lL m)))
        | (refine CYx.block (id := 8) ?_; refine CYx.loopK (ι := Nat) [0, 9, 11, 37, 38, 39, 43, 44, 45, 53, 54] (fun k => (LL a b m).length - k) (fun k => [(55, .int .i64 (k : Int))]) (fun k => [.row false 0 false 1 [pts a], .row false 0 false 1 [pts b], .row false 0 false 1 [.bool false], .row false 0 false 2 [pt (0, 0)], .row false 0 false 1 [.int .i64 0], .row false 0 false 1 [.int .i64 0], .row false 0 false 1 [pts a, pts b], .row false 0 false 1 [pts a], .row false 0 false 1 [pts b], .row false 0 false 1 [pts a, pts b], .row false 0 false 2 [pt (P (LL a b m) s)]]) (fun k => (k ≤ (LL a b m).length - (s + 1) ∧ s < (LL a b m).length) ∧ noS a b (wPI a b m s (s + 1 + k))) (fun i => by simp only [keepA, Am.get, List.cons_append, List.nil_append, Nat.reduceEqDiff, ↓reduceIte]; exact rfl) (0) ?_ ?_ (fun k hi => ?_); (focus (exact ⟨⟨Nat.zero_le _, by omega⟩, by rw [Nat.add_zero, wPI_zero]; exact hi.2⟩; done)); (focus (refine Fgt.mk' 11 (by simp) ?_ ?_ ?_ <;> simp [-List.map_take, -List.map_map, AV.isY, ltL_append, ix_nil, keepB, Am.get, AV.lt, ltL, lt_pts, lt_pt, lt_ixV, ltL_ix, ltL_pt, Blk.lt, ltB]; done)); have Hk := hi; ((obtain ⟨w, hw⟩ : ∃ w, w = sub (P (LL a b m) (s + 1 + k)) (P (LL a b m) s) := ⟨_, rfl⟩); (have k95 : k < (LL a b m).length - (s + 1) → CallsF Try.prog 95 [pt (P (LL a b m) s), pt (P (LL a b m) (s + 1 + k))] [] (quad w) [] := fun h => by rw [hw]; exact c95 (qL m _ (by omega)) (qL m _ (by omega))); (have hsw : k < (LL a b m).length - (s + 1) → smallV w := fun h => by rw [hw]; exact sub_small (qL m _ (by omega)) (qL m _ (by omega))); (have hs0 : k < (LL a b m).length - (s + 1) → smallV (-w.2, w.1) := fun h => by have := hsw h; simp only [smallV] at this ⊢; omega); (have hs1 : k < (LL a b m).length - (s + 1) → smallV (w.2, -w.1) := fun h => by have := hsw h; simp only [smallV] at this ⊢; omega); (have hsv : k < (LL a b m).length - (s + 1) → (-200000 ≤ w.1 ∧ w.1 ≤ 200000) ∧ (-200000 ≤ w.2 ∧ w.2 ≤ 200000) := hsw); (have tb0 := fun h => tb _ (hs0 h)); (have tb1 := fun h => tb _ (hs1 h))))
        | refine CYx.block (id := 1) ?_
        | refine CYx.block (id := 3) ?_
        | refine CYx.block (id := 5) ?_
        | refine CYx.block (id := 7) ?_
        | refine CYx.block (id := 9) ?_
        | refine CYx.skip ?_
        | (refine CYx.exit (id := 2) ?_; (have ej : j = b.length := by omega))
        | (refine CYx.exit (id := 8) ?_; (have ek : s + 1 + k = (LL a b m).length := by omega))
        | (refine CYx.exit (id := 6) ?_; (have es : s = (LL a b m).length := by omega))
        | refine CYx.exit ?_
        | (intro al hal; refine ⟨rfl, j + 1, ?_, ?_, Fgt.ofx hal ?_⟩; (focus (first | omega | (dsimp only; omega))); (focus (exact ⟨by omega, by rw [wI_succ a b i j (by omega)]; exact noS_snoc hi.2 (spl_f (by assumption))⟩; done)); (focus (refine Fgt.mk' 10 (by simp) ?_ ?_ ?_ <;> simp [-List.map_take, -List.map_map, AV.isY, ltL_append, ix_nil, keepB, Am.get, AV.lt, ltL, lt_pts, lt_pt, lt_ixV, ltL_ix, ltL_pt, Blk.lt, ltB]; done)))
        | (intro al hal; refine ⟨rfl, i + 1, ?_, ?_, Fgt.ofx hal ?_⟩; (focus (first | omega | (dsimp only; omega))); (focus (exact ⟨by omega, by rw [wA_succ a b i (by omega), ← ej]; exact hi.2⟩; done)); (focus (refine Fgt.mk' 9 (by simp) ?_ ?_ ?_ <;> simp [-List.map_take, -List.map_map, AV.isY, ltL_append, ix_nil, keepB, Am.get, AV.lt, ltL, lt_pts, lt_pt, lt_ixV, ltL_ix, ltL_pt, Blk.lt, ltB]; done)))
        | (intro al hal; refine ⟨rfl, k + 1, ?_, ?_, Fgt.ofx hal ?_⟩; (focus (first | omega | (dsimp only; omega))); (focus (exact ⟨⟨by omega, hi.1.2⟩, noS_two hi.2 hw trivial (spl_f (by assumption)) (spl_f (by assumption))⟩; done)); (focus (refine Fgt.mk' 11 (by simp) ?_ ?_ ?_ <;> simp [-List.map_take, -List.map_map, AV.isY, ltL_append, ix_nil, keepB, Am.get, AV.lt, ltL, lt_pts, lt_pt, lt_ixV, ltL_ix, ltL_pt, Blk.lt, ltB]; done)))
        | (intro al hal; refine ⟨rfl, s + 1, ?_, ?_, Fgt.ofx hal ?_⟩; (focus (first | omega | (dsimp only; omega))); (focus (exact ⟨by omega, by rw [wPN_succ, ← ek]; exact hi.2⟩; done)); (focus (refine Fgt.mk' 10 (by simp) ?_ ?_ ?_ <;> simp [-List.map_take, -List.map_map, AV.isY, ltL_append, ix_nil, keepB, Am.get, AV.lt, ltL, lt_pts, lt_pt, lt_ixV, ltL_ix, ltL_pt, Blk.lt, ltB]; done)))
        | (intro al hal; refine ⟨rfl, m + 1, ?_, ?_, Fgt.ofx hal ?_⟩; (focus (first | omega | (dsimp only; omega))); (focus (exact ⟨by omega, by rw [wP_succ, ← es]; exact hi.2⟩; done)); (focus (refine Fgt.mk' 10 (by simp) ?_ ?_ ?_ <;> simp [-List.map_take, -List.map_map, AV.isY, ltL_append, ix_nil, keepB, Am.get, AV.lt, ltL, lt_pts, lt_pt, lt_ixV, ltL_ix, ltL_pt, Blk.lt, ltB]; done)))
        | (refine fun al3 hal3 => finK_ext hal3 (finK_pure (.inr rfl) (by simp only [resRV, Am.get, Nat.reduceEqDiff, ↓reduceIte]; exact rfl) ?_ ?_); (focus (first | ((rw [sep_t ca cb he (pre := wPI a b m s (s + 1 + k)) (d := (-w.2, w.1)) (pre_n0 hw (by omega) (by omega) (by omega)) hi.2 (spl_t (by assumption))]; rfl); done) | ((rw [sep_t ca cb he (pre := wPI a b m s (s + 1 + k) ++ [(-w.2, w.1)]) (d := (w.2, -w.1)) (pre_n1 hw (by omega) (by omega) (by omega)) (noS_snoc hi.2 (spl_f (by assumption))) (spl_t (by assumption))]; rfl); done) | ((rw [sep_f ca cb he (by rw [waysI, show 2 = m by omega]; exact hi.2)]; rfl); done) | ((rw [sep_t ca cb he (pre := wI a b i j) (d := sub (P b j) (P a i)) (by rw [← wI_succ a b i j (by omega)]; exact pre_wI a b (by omega) (by omega)) hi.2 (spl_t (by assumption))]; rfl); done) | (rfl; done) | ((simp only [tupAV]; congr <;> omega); done) | (simp [tupAV, *]; done))); (focus (first | rfl | (simp [AV.allR, allRL, allRL_ix]; done))))
  · refine callsF_cwx hm hf23 (by simp [cf23]) ?_
    simp only [cf23, argsAl]
    repeat' first
      | (refine hK _ _ _ (by first | exact fun h => Bool.noConfusion h | exact fun _ => rfl) ?_; clear hK K)
      | (refine CWx.r fun K hK => ?_; simp (maxSteps := 4000000) (disch := omega) only [dr0, dr1, dr2, dr3, dr4, if_true, if_false, Option.some.injEq, Nat.reduceEqDiff, Int.reduceToNat, Nat.reduceSub, Nat.reduceAdd, Nat.reduceMul, Nat.reduceLT, Nat.reduceLeDiff, reduceCtorEq, ↓reduceIte, catT, enc0, enc1, if_pos, if_neg, llg])
      | refine CWx.go ?_
      | (apply RCx.view (fid := 50) (caps := []) rfl rfl; (focus ((simp only [evsA, evA_t, evA_c, Am.get, Nat.reduceEqDiff, ↓reduceIte, List.nil_append, List.cons_append, List.append_nil]; repeat' first | exact viewArgs_nil | apply viewArgs_cons | exact viewG_flat (flat_pts _ _) _ | exact viewG_flat (flat_ixV _ _) _ | exact viewG_flat (flat_sv _ _) _ | exact viewG_ixT rfl (by assumption) (by omega) | exact viewG_ptsL rfl (by first | omega | (simp; done) | (simp; omega)) | exact viewG_ix rfl (by first | omega | (simp; omega)) | exact viewG_flat rfl _; done))); (focus (refine kl m <;> first | omega | assumption)); (focus rfl); simp (maxSteps := 4000000) (disch := omega) only [dr0, dr1, dr2, dr3, dr4, if_true, if_false, Option.some.injEq, Nat.reduceEqDiff, Int.reduceToNat, Nat.reduceSub, Nat.reduceAdd, Nat.reduceMul, Nat.reduceLT, Nat.reduceLeDiff, reduceCtorEq, ↓reduceIte, catT, enc0, enc1, if_pos, if_neg, llg])
      | (refine gX_split (fun hb => ?_) (fun hb => ?_) <;> (try simp only [hb]) <;> (try simp only [bset0, reduceCtorEq] at hb) <;> first | omega | simp (maxSteps := 4000000) (disch := omega) only [dr0, dr1, dr2, dr3, dr4, if_true, if_false, Option.some.injEq, Nat.reduceEqDiff, Int.reduceToNat, Nat.reduceSub, Nat.reduceAdd, Nat.reduceMul, Nat.reduceLT, Nat.reduceLeDiff, reduceCtorEq, ↓reduceIte, catT, enc0, enc1, if_pos, if_neg, llg])
      | (refine CWx.br rfl (fun hb => ?_) (fun hb => ?_) <;> first | exact Bool.noConfusion hb | (first | (simp only [bset0, reduceCtorEq] at hb; done) | ((try simp only [bset0, reduceCtorEq] at hb); first | omega | skip)))
      | (refine CWx.e fun K hK => ?_; simp (maxSteps := 4000000) (disch := omega) only [dr0, dr1, dr2, dr3, dr4, if_true, if_false, Option.some.injEq, Nat.reduceEqDiff, Int.reduceToNat, Nat.reduceSub, Nat.reduceAdd, Nat.reduceMul, Nat.reduceLT, Nat.reduceLeDiff, reduceCtorEq, ↓reduceIte, catT, enc0, enc1, if_pos, if_neg, llg])
      | (refine CWx.block (id := 0) ?_; refine CWx.loopK (ι := Nat) [2, 3, 4, 5, 6, 7, 15, 16, 40] (fun m => 2 - m) (fun m => [(17, .int .i64 (m : Int))]) (fun m => [.row false 0 false 1 [pts a], .row false 0 false 1 [pts b], .row false 0 false 1 [.bool false], .row false 0 false 2 [pt (0, 0)], .row false 0 false 1 [.int .i64 0], .row false 0 false 1 [.int .i64 0], .row false 0 false 1 [pts a, pts b]]) (fun m => m ≤ 2 ∧ ∀ k, k < m → chk (LL a b k) = 0) (fun i => by simp only [keepA, Am.get, List.cons_append, List.nil_append, Nat.reduceEqDiff, ↓reduceIte]; exact rfl) (0) ?_ ?_ (fun m hi => ?_); (focus ((try dsimp only) <;> (first | trivial | omega | (refine ⟨?_, ?_⟩ <;> first | omega | trivial | simp_all) | simp_all); done)); (focus (refine Fgt.mk' 7 (by simp) ?_ ?_ ?_ <;> simp [-List.map_take, -List.map_map, AV.isY, ltL_append, ix_nil, keepB, Am.get, AV.lt, ltL, lt_pts, lt_pt, lt_ixV, ltL_ix, ltL_pt, Blk.lt, ltB]; done)); have Hm := hi; (skip))
      | refine CWx.seq ?_
      | refine CWx.block (id := 1) ?_
      | refine CWx.block (id := 2) ?_
      | refine CWx.block (id := 3) ?_
      | refine CWx.skip ?_
      | (refine CWx.exit (id := 0) ?_; (exfalso; exact hall ⟨hi.2 0 (by omega), hi.2 1 (by omega)⟩))
      | refine CWx.exit ?_
      | (refine CWx.ret fun al hal => finK_ext hal (finK_pure (.inr rfl) (by simp only [resRV, Am.get, Nat.reduceEqDiff, ↓reduceIte]; exact rfl) ?_ ?_); (focus (first | ((rw [sep_e (m := m) (by omega) (by omega) hi.2]; rfl); done) | (rfl; done) | ((simp only [tupAV]; congr <;> omega); done) | (simp [tupAV, *]; done))); (focus (first | rfl | (simp [AV.allR, allRL, allRL_ix]; done))))
      | (intro al hal; refine ⟨m + 1, ?_, ?_, Fgt.ofx hal ?_⟩; (focus (first | omega | (dsimp only; omega))); (focus (exact ⟨by omega, allUp hi.2 (by omega)⟩; done)); (focus (refine Fgt.mk' 7 (by simp) ?_ ?_ ?_ <;> simp [-List.map_take, -List.map_map, AV.isY, ltL_append, ix_nil, keepB, Am.get, AV.lt, ltL, lt_pts, lt_pt, lt_ixV, ltL_ix, ltL_pt, Blk.lt, ltB]; done)))
end Go.Hull
end
section
set_option linter.unusedSimpArgs false
set_option linter.unusedVariables false
set_option maxHeartbeats 4000000
namespace Go.Hull
open Go Go.Am Go.Proofs

-- the highest point
theorem topN_spec {l : List Pt} (hl : 0 < l.length) (d : Pt) : ∀ n, n ≤ l.length → (∀ k, k < n → dot (P l k) d ≤ topN l d n) ∧ ∃ k, k < l.length ∧ topN l d n = dot (P l k) d := by
  intro n
  induction n with
  | zero => intro _; exact ⟨fun k hk => by omega, 0, hl, rfl⟩
  | succ n ih =>
    intro h
    obtain ⟨h1, k, hk, h2⟩ := ih (by omega)
    have e : topN l d (n + 1) = if topN l d n < dot (P l n) d then dot (P l n) d else topN l d n := by
      simp only [topN, maxI, gt_iff_lt]
    rw [e]
    by_cases hlt : topN l d n < dot (P l n) d
    · rw [if_pos hlt]
      exact ⟨fun j hj => by
        by_cases e : j = n
        · rw [e]; exact Int.le_refl _
        · have := h1 j (by omega); omega, n, by omega, rfl⟩
    · rw [if_neg hlt]
      exact ⟨fun j hj => by
        by_cases e : j = n
        · rw [e]; omega
        · exact h1 j (by omega), k, hk, h2⟩
theorem dot_neg (p d : Pt) : dot p (neg d) = - dot p d := by simp only [dot, neg]; grind
/-- The points of the hull are as high as all. -/
theorem hull_top {l : List Pt} (hl : 0 < l.length) (d : Pt) (m : Int) (h : ∀ q, isV l (hullI l) q → dot q d ≤ m) : ∀ q ∈ l, dot q d ≤ m := by
  intro q hq
  have V := hullV l hl
  have hin : InP (isV l (hullI l)) q := in_of_inH V ((in_iff V q).1 (.inl hq))
  have := hin.aff (A := -d.1) (B := -d.2) (C := m) fun q hq => by
    have := h q hq
    simp only [dot, aff] at this ⊢
    rw [Int.neg_mul, Int.neg_mul, Int.mul_comm d.1, Int.mul_comm d.2]
    omega
  simp only [dot, aff] at this ⊢
  rw [Int.neg_mul, Int.neg_mul, Int.mul_comm d.1, Int.mul_comm d.2] at this
  omega
-- turning a direction up to a side
end Go.Hull
end
section
set_option linter.unusedSimpArgs false
set_option linter.unusedVariables false
set_option maxHeartbeats 4000000
namespace Go.Hull
open Go Go.Am Go.Proofs

def Sep (a b : List Pt) (d : Pt) : Prop := ∀ p ∈ a, ∀ q ∈ b, dot p d < dot q d
theorem spl_iff {a b : List Pt} (ha : 0 < a.length) (hb : 0 < b.length) (d : Pt) : spl a b d = true ↔ Sep a b d := by
  obtain ⟨a1, i, hi, a2⟩ := topN_spec ha d a.length (Nat.le_refl _)
  obtain ⟨b1, j, hj, b2⟩ := topN_spec hb (neg d) b.length (Nat.le_refl _)
  rw [spl, decide_eq_true_eq]
  constructor
  · intro h p hp q hq
    obtain ⟨x, hx, rfl⟩ := mem_P hp
    obtain ⟨y, hy, rfl⟩ := mem_P hq
    have h1 := a1 x hx
    have h2 := b1 y hy
    rw [dot_neg] at h2
    omega
  · intro h
    have := h _ (P_mem hi) _ (P_mem hj)
    rw [a2, b2, dot_neg]; omega
theorem way_diff {a b : List Pt} {p q : Pt} (hp : p ∈ a) (hq : q ∈ b) : sub q p ∈ waysI a b := by
  have : sub q p ∈ wP a b 0 := by
    rw [wP_zero, wA, List.take_length]
    exact List.mem_flatMap.2 ⟨p, hp, List.mem_map.2 ⟨q, hq, rfl⟩⟩
  exact (pre_wP a b (m := 0) (by omega)).subset this
theorem way_nrm {a b : List Pt} {m : Nat} (hm : m < 2) {p q : Pt} (hp : p ∈ LL a b m) (hq : q ∈ LL a b m) (hne : p ≠ q) {d : Pt} (hd : d = ((sub q p).2, -(sub q p).1) ∨ d = (-(sub q p).2, (sub q p).1)) : d ∈ waysI a b := by
  obtain ⟨i, hi, rfl⟩ := mem_P hp
  obtain ⟨j, hj, rfl⟩ := mem_P hq
  have key : ∀ i j, i < j → j < (LL a b m).length → ∀ d ∈ nrm (P (LL a b m) i) (P (LL a b m) j), d ∈ waysI a b := fun i j hij hj d hd => by
    have := pre_wPI a b (m := m) (i := i) (k := j + 1) hm (by omega) (by omega)
    rw [wPI_succ a b m i j (by omega)] at this
    exact this.subset (List.mem_append_right _ hd)
  by_cases h : i < j
  · refine key i j h hj d ?_
    rw [nrm]
    rcases hd with rfl | rfl <;> simp
  · have hji : j < i := by
      rcases Nat.lt_or_eq_of_le (Nat.not_lt.1 h) with h | h
      · exact h
      · subst h; exact absurd rfl hne
    refine key j i hji hi d ?_
    have e : sub (P (LL a b m) i) (P (LL a b m) j) = (-(sub (P (LL a b m) j) (P (LL a b m) i)).1, -(sub (P (LL a b m) j) (P (LL a b m) i)).2) := by
      simp only [sub]; exact Prod.ext (by simp only; omega) (by simp only; omega)
    rw [nrm, e]
    simp only [Int.neg_neg]
    rcases hd with rfl | rfl <;> simp
/-- The first side of a cone on the way to g. -/
theorem first_hit (d g : Pt) : ∀ (W : List Pt), (∀ w ∈ W, dot w d ≤ 0) → (∀ w ∈ W, dot w g ≤ 0) ∨ ∃ w ∈ W, 0 < dot w g ∧ ∀ w' ∈ W, dot w g * dot w' d - dot w d * dot w' g ≤ 0 := by
  intro W
  induction W with
  | nil => intro _; exact .inl fun w hw => by cases hw
  | cons w1 L ih =>
    intro h
    have h1 := h w1 (by simp)
    have hL : ∀ w ∈ L, dot w d ≤ 0 := fun w hw => h w (List.mem_cons_of_mem _ hw)
    have low : ∀ w w' : Pt, dot w d ≤ 0 → 0 < dot w g → dot w' d ≤ 0 → dot w' g ≤ 0 → dot w g * dot w' d - dot w d * dot w' g ≤ 0 := fun w w' a b c e => by
      have p1 : dot w g * dot w' d ≤ 0 := Int.mul_nonpos_of_nonneg_of_nonpos (by omega) c
      have p2 : 0 ≤ dot w d * dot w' g := Int.mul_nonneg_of_nonpos_of_nonpos a e
      omega
    rcases ih hL with hl | ⟨w, hw, hg, hall⟩
    · by_cases hg1 : dot w1 g ≤ 0
      · exact .inl fun w hw => by
          rcases List.mem_cons.1 hw with rfl | hw
          · exact hg1
          · exact hl w hw
      · refine .inr ⟨w1, by simp, by omega, fun w' hw' => ?_⟩
        rcases List.mem_cons.1 hw' with rfl | hw'
        · rw [Int.mul_comm]; omega
        · exact low w1 w' h1 (by omega) (hL w' hw') (hl w' hw')
    · by_cases hg1 : dot w1 g ≤ 0
      · refine .inr ⟨w, List.mem_cons_of_mem _ hw, hg, fun w' hw' => ?_⟩
        rcases List.mem_cons.1 hw' with rfl | hw'
        · exact low w w' (hL w hw) hg h1 hg1
        · exact hall w' hw'
      · by_cases hK : dot w g * dot w1 d - dot w d * dot w1 g ≤ 0
        · refine .inr ⟨w, List.mem_cons_of_mem _ hw, hg, fun w' hw' => ?_⟩
          rcases List.mem_cons.1 hw' with rfl | hw'
          · exact hK
          · exact hall w' hw'
        · refine .inr ⟨w1, by simp, by omega, fun w' hw' => ?_⟩
          rcases List.mem_cons.1 hw' with rfl | hw'
          · rw [Int.mul_comm]; omega
          · by_cases hs : dot w' g ≤ 0
            · exact low w1 w' h1 (by omega) (hL w' hw') hs
            · have hA := hall w' hw'
              have e : dot w g * (dot w1 g * dot w' d - dot w1 d * dot w' g) = dot w1 g * (dot w g * dot w' d - dot w d * dot w' g) - (dot w g * dot w1 d - dot w d * dot w1 g) * dot w' g := by grind
              have p1 : dot w1 g * (dot w g * dot w' d - dot w d * dot w' g) ≤ 0 := Int.mul_nonpos_of_nonneg_of_nonpos (by omega) hA
              have p2 : 0 < (dot w g * dot w1 d - dot w d * dot w1 g) * dot w' g := Int.mul_pos (by omega) (by omega)
              by_cases hn : dot w1 g * dot w' d - dot w1 d * dot w' g ≤ 0
              · exact hn
              · have : 0 < dot w g * (dot w1 g * dot w' d - dot w1 d * dot w' g) := Int.mul_pos hg (by omega)
                omega
theorem hit_side {W : List Pt} (nz : ∀ w ∈ W, w ≠ (0, 0)) {d g : Pt} (hd : ∀ w ∈ W, dot w d ≤ 0) (hg : 0 < dot g d) :
    (∀ w ∈ W, dot w g ≤ 0) ∨ ∃ w ∈ W, ∃ e, (e = (w.2, -w.1) ∨ e = (-w.2, w.1)) ∧ (∀ w' ∈ W, dot w' e ≤ 0) ∧ 0 < dot g e := by
  rcases first_hit d g W hd with h | ⟨w, hw, hwg, hall⟩
  · exact .inl h
  · right
    obtain ⟨e0, he0⟩ : ∃ e0 : Pt, e0 = (dot w g * d.1 - dot w d * g.1, dot w g * d.2 - dot w d * g.2) := ⟨_, rfl⟩
    have ev : ∀ x : Pt, dot x e0 = dot w g * dot x d - dot w d * dot x g := fun x => by rw [he0]; simp only [dot]; grind
    have ew : dot w e0 = 0 := by rw [ev, Int.mul_comm]; omega
    have ec : ∀ w' ∈ W, dot w' e0 ≤ 0 := fun w' hw' => by rw [ev]; exact hall w' hw'
    have eg : 0 < dot g e0 := by
      rw [ev]
      have p1 : 0 < dot w g * dot g d := Int.mul_pos hwg hg
      have p2 : dot w d * dot g g ≤ 0 := Int.mul_nonpos_of_nonpos_of_nonneg (hd w hw) (by
        by_cases h : g = (0, 0)
        · rw [h]; decide
        · exact Int.le_of_lt (dot_self_pos h))
      omega
    have ez : e0 ≠ (0, 0) := fun h => by rw [h] at eg; simp [dot] at eg
    have hdd := dot_self_pos ez
    have key : ∀ e : Pt, (e = (w.2, -w.1) ∨ e = (-w.2, w.1)) → 0 < dot e0 e → (∀ w' ∈ W, dot w' e ≤ 0) ∧ 0 < dot g e := fun e he hp => by
      have hde : turn e0 e = 0 := by
        simp only [dot] at ew
        rcases he with rfl | rfl <;> simp only [turn] <;> grind
      have id : ∀ x : Pt, dot x e * dot e0 e0 = dot x e0 * dot e0 e := fun x => by
        have : dot x e * dot e0 e0 = dot x e0 * dot e0 e + turn e0 x * turn e0 e := by simp only [dot, turn]; grind
        rw [hde, Int.mul_zero, Int.add_zero] at this; exact this
      refine ⟨fun w' hw' => ?_, ?_⟩
      · have a1 : dot w' e0 * dot e0 e ≤ 0 := Int.mul_nonpos_of_nonpos_of_nonneg (ec w' hw') (by omega)
        rw [← id] at a1
        by_cases hn : dot w' e ≤ 0
        · exact hn
        · have : 0 < dot w' e * dot e0 e0 := Int.mul_pos (by omega) hdd
          omega
      · have a1 : 0 < dot g e0 * dot e0 e := Int.mul_pos eg hp
        rw [← id] at a1
        by_cases hn : 0 < dot g e
        · exact hn
        · have : dot g e * dot e0 e0 ≤ 0 := Int.mul_nonpos_of_nonpos_of_nonneg (by omega) (by omega)
          omega
    have hne : dot e0 (w.2, -w.1) ≠ 0 := fun h1 => by
      have l1 := lagr e0 w w
      have e1 : dot e0 w = 0 := by rw [← ew]; simp only [dot]; grind
      have e2 : turn e0 w = 0 := by
        have : turn e0 w = dot e0 (w.2, -w.1) := by simp only [dot, turn]; grind
        rw [this, h1]
      rw [e1, e2] at l1
      have := Int.mul_pos hdd (dot_self_pos (nz w hw))
      omega
    by_cases hp : 0 < dot e0 (w.2, -w.1)
    · exact ⟨w, hw, _, .inl rfl, key _ (.inl rfl) hp⟩
    · refine ⟨w, hw, _, .inr rfl, key _ (.inr rfl) ?_⟩
      have : dot e0 (-w.2, w.1) = - dot e0 (w.2, -w.1) := by simp only [dot]; grind
      omega
theorem sep_way {a b : List Pt} (ha : 0 < a.length) (hb : 0 < b.length) {d : Pt} (h : Sep a b d) : ∃ e ∈ waysI a b, Sep a b e := by
  obtain ⟨a1, i, hi, a2⟩ := topN_spec ha d a.length (Nat.le_refl _)
  obtain ⟨b1, j, hj, b2⟩ := topN_spec hb (neg d) b.length (Nat.le_refl _)
  obtain ⟨p, hp⟩ : ∃ p, p = P a i := ⟨_, rfl⟩
  obtain ⟨q, hq⟩ : ∃ q, q = P b j := ⟨_, rfl⟩
  have pa : p ∈ a := by rw [hp]; exact P_mem hi
  have qb : q ∈ b := by rw [hq]; exact P_mem hj
  have sz : ∀ p q : Pt, p ≠ q → sub p q ≠ (0, 0) := fun p q hne h => hne (by
    simp only [sub, Prod.mk.injEq] at h
    exact Prod.ext (by omega) (by omega))
  obtain ⟨W, hW⟩ : ∃ W, W = ((a.filter fun x => decide (x ≠ p)).map fun x => sub x p) ++ ((b.filter fun y => decide (y ≠ q)).map fun y => sub q y) := ⟨_, rfl⟩
  have mW : ∀ w, w ∈ W ↔ (∃ x ∈ a, x ≠ p ∧ sub x p = w) ∨ ∃ y ∈ b, y ≠ q ∧ sub q y = w := fun w => by
    rw [hW]; simp only [List.mem_append, List.mem_map, List.mem_filter, decide_eq_true_eq, and_assoc]
  have ds : ∀ x y d : Pt, dot (sub x y) d = dot x d - dot y d := fun x y d => by simp only [dot, sub]; grind
  have fin : ∀ e, (∀ w ∈ W, dot w e ≤ 0) → 0 < dot (sub q p) e → Sep a b e := fun e hc hg x hx y hy => by
    rw [ds] at hg
    have h1 : dot x e ≤ dot p e := by
      by_cases h : x = p
      · rw [h]; exact Int.le_refl _
      · have := hc _ ((mW _).2 (.inl ⟨x, hx, h, rfl⟩)); rw [ds] at this; omega
    have h2 : dot q e ≤ dot y e := by
      by_cases h : y = q
      · rw [h]; exact Int.le_refl _
      · have := hc _ ((mW _).2 (.inr ⟨y, hy, h, rfl⟩)); rw [ds] at this; omega
    omega
  have hc : ∀ w ∈ W, dot w d ≤ 0 := fun w hw => by
    rcases (mW w).1 hw with ⟨x, hx, hne, rfl⟩ | ⟨y, hy, hne, rfl⟩
    · obtain ⟨k, hk, rfl⟩ := mem_P hx
      have := a1 k hk
      rw [ds, hp]; omega
    · obtain ⟨k, hk, rfl⟩ := mem_P hy
      have := b1 k hk
      rw [b2, dot_neg, dot_neg] at this
      rw [ds, hq]; omega
  have nz : ∀ w ∈ W, w ≠ (0, 0) := fun w hw => by
    rcases (mW w).1 hw with ⟨x, hx, hne, rfl⟩ | ⟨y, hy, hne, rfl⟩
    · exact sz _ _ hne
    · exact sz _ _ fun h => hne h.symm
  have hg : 0 < dot (sub q p) d := by
    have := h p pa q qb
    rw [ds]; omega
  rcases hit_side nz hc hg with hg' | ⟨w, hw, e, he, hce, hge⟩
  · refine ⟨sub q p, way_diff pa qb, fin _ hg' (dot_self_pos fun h0 => ?_)⟩
    rw [h0] at hg; simp [dot] at hg
  · refine ⟨e, ?_, fin e hce hge⟩
    rcases (mW w).1 hw with ⟨x, hx, hne, rfl⟩ | ⟨y, hy, hne, rfl⟩
    · exact way_nrm (a := a) (b := b) (m := 0) (by omega) (p := p) (q := x) pa hx (fun h => hne h.symm) he
    · exact way_nrm (a := a) (b := b) (m := 1) (by omega) (p := y) (q := q) hy qb hne he
end Go.Hull
end
section
set_option linter.unusedSimpArgs false
set_option linter.unusedVariables false
set_option maxHeartbeats 4000000
namespace Go.Hull
open Go Go.Am Go.Proofs

theorem dot_self_nn' (u : Pt) : 0 ≤ dot u u := by
  by_cases h : u = (0, 0)
  · rw [h]; decide
  · exact Int.le_of_lt (dot_self_pos h)
/-- A point that is in no hull of a list is separated from it. -/
theorem sepP {l : List Pt} (hl : 0 < l.length) {p : Pt} (h : ¬ InP (· ∈ l) p) : ∃ d, ∀ x ∈ l, dot p d < dot x d := by
  have V := hullV l hl
  have ne := V.T.ne
  rw [in_iff V p] at h
  have lft : ∀ (d : Pt), (∀ q, isV l (hullI l) q → dot p d < dot q d) → ∀ x ∈ l, dot p d < dot x d := fun d hd x hx => by
    have := hull_top hl (neg d) (- dot p d - 1) (fun q hq => by have := hd q hq; rw [dot_neg]; omega) x hx
    rw [dot_neg] at this; omega
  unfold inH at h
  split at h
  · rename_i h2
    obtain ⟨x0, e0⟩ : ∃ x0, x0 = vx l (hullI l) 0 := ⟨_, rfl⟩
    obtain ⟨x1, e1⟩ : ∃ x1, x1 = vx l (hullI l) ((hullI l).length - 1) := ⟨_, rfl⟩
    rw [← e0, ← e1] at h
    have two : ∀ d, dot p d < dot x0 d → dot p d < dot x1 d → ∃ d, ∀ x ∈ l, dot p d < dot x d := fun d h0 h1 => ⟨d, lft d fun q hq => by
      obtain ⟨m, hm, rfl⟩ := hq
      by_cases e : m = 0
      · rw [e, ← e0]; exact h0
      · rw [show m = (hullI l).length - 1 by omega, ← e1]; exact h1⟩
    have id0 : dot x0 (-(sub x1 x0).2, (sub x1 x0).1) = dot p (-(sub x1 x0).2, (sub x1 x0).1) - left x0 x1 p := by simp only [dot, sub, left, turn]; grind
    have id1 : dot x1 (-(sub x1 x0).2, (sub x1 x0).1) = dot p (-(sub x1 x0).2, (sub x1 x0).1) - left x0 x1 p := by simp only [dot, sub, left, turn]; grind
    by_cases hz : left x0 x1 p = 0
    · have hp : 0 < dot (sub x0 p) (sub x1 p) := by
        by_cases hq : dot (sub x0 p) (sub x1 p) ≤ 0
        · exact absurd ⟨hz, hq⟩ h
        · omega
      have n0 := dot_self_nn' (sub x0 p)
      have n1 := dot_self_nn' (sub x1 p)
      refine two ((sub x0 p).1 + (sub x1 p).1, (sub x0 p).2 + (sub x1 p).2) ?_ ?_
      · have : dot x0 ((sub x0 p).1 + (sub x1 p).1, (sub x0 p).2 + (sub x1 p).2) - dot p ((sub x0 p).1 + (sub x1 p).1, (sub x0 p).2 + (sub x1 p).2) = dot (sub x0 p) (sub x0 p) + dot (sub x0 p) (sub x1 p) := by simp only [dot, sub]; grind
        omega
      · have : dot x1 ((sub x0 p).1 + (sub x1 p).1, (sub x0 p).2 + (sub x1 p).2) - dot p ((sub x0 p).1 + (sub x1 p).1, (sub x0 p).2 + (sub x1 p).2) = dot (sub x1 p) (sub x1 p) + dot (sub x0 p) (sub x1 p) := by simp only [dot, sub]; grind
        omega
    · by_cases hs : left x0 x1 p < 0
      · exact two (-(sub x1 x0).2, (sub x1 x0).1) (by omega) (by omega)
      · refine two (neg (-(sub x1 x0).2, (sub x1 x0).1)) ?_ ?_ <;> rw [dot_neg, dot_neg] <;> omega
  · rename_i h2
    obtain ⟨i, hi⟩ := Classical.not_forall.1 h
    obtain ⟨hi, hlt⟩ := Classical.not_imp.1 hi
    obtain ⟨a, ha⟩ : ∃ a, a = vx l (hullI l) i := ⟨_, rfl⟩
    obtain ⟨b, hb⟩ : ∃ b, b = vx l (hullI l) (i + 1) := ⟨_, rfl⟩
    refine ⟨(-(sub b a).2, (sub b a).1), fun x hx => ?_⟩
    have h1 := vx_big V.T (by omega) i hx
    rw [← ha, ← hb] at h1 hlt
    have : left a b x - left a b p = dot x (-(sub b a).2, (sub b a).1) - dot p (-(sub b a).2, (sub b a).1) := by simp only [dot, sub, left, turn]; grind
    omega
/-- The weights of a point of a hull. -/
theorem weights {D : Pt → Prop} {p : Pt} (h : InP D p) : ∃ x y z : Pt, ∃ i j k : Int, D x ∧ D y ∧ D z ∧ 0 ≤ i ∧ 0 ≤ j ∧ 0 ≤ k ∧ 0 < i + j + k ∧ ∀ d, (i + j + k) * dot p d = i * dot x d + j * dot y d + k * dot z d := by
  rcases h with h | ⟨a, b, ha, hb, h⟩ | ⟨a, b, c, ha, hb, hc, h⟩
  · exact ⟨p, p, p, 1, 0, 0, h, h, h, by omega, by omega, by omega, by omega, fun d => by omega⟩
  · simp only [betw, Bool.and_eq_true, decide_eq_true_eq] at h
    obtain ⟨h1, h2⟩ := h
    by_cases hv : sub b p = (0, 0)
    · have : b = p := by
        simp only [sub, Prod.mk.injEq] at hv; exact Prod.ext (by omega) (by omega)
      exact ⟨b, b, b, 1, 0, 0, hb, hb, hb, by omega, by omega, by omega, by omega, fun d => by rw [this]; omega⟩
    · have pos := dot_self_pos hv
      refine ⟨a, b, b, dot (sub b p) (sub b p), - dot (sub a p) (sub b p), 0, ha, hb, hb, by omega, by omega, by omega, by omega, fun d => ?_⟩
      have t : turn (sub a p) (sub b p) = 0 := by
        have : turn (sub a p) (sub b p) = left a b p := by simp only [left, turn, sub]; grind
        rw [this, h1]
      have key : dot (sub b p) (sub b p) * dot (sub a p) d = dot (sub a p) (sub b p) * dot (sub b p) d := by
        have e : dot (sub b p) (sub b p) * dot (sub a p) d = dot (sub b p) (sub a p) * dot (sub b p) d + turn (sub b p) (sub a p) * turn (sub b p) d := lagr _ _ _
        have t2 : turn (sub b p) (sub a p) = 0 := by
          have : turn (sub b p) (sub a p) = - turn (sub a p) (sub b p) := by simp only [turn]; grind
          rw [this, t]; rfl
        have t3 : dot (sub b p) (sub a p) = dot (sub a p) (sub b p) := by simp only [dot]; grind
        rw [e, t2, t3]; omega
      have ea : dot (sub a p) d = dot a d - dot p d := by simp only [dot, sub]; grind
      have eb : dot (sub b p) d = dot b d - dot p d := by simp only [dot, sub]; grind
      rw [ea, eb] at key
      grind
  · simp only [inTri, Bool.and_eq_true, Bool.or_eq_true, decide_eq_true_eq] at h
    obtain ⟨h0, h⟩ := h
    have s := tri_sum p a b c
    have id : ∀ d : Pt, left a b c * dot p d = left b c p * dot a d + left c a p * dot b d + left a b p * dot c d := fun d => by
      have := tri_id d.1 d.2 0 p a b c
      simp only [aff, Int.add_zero] at this
      have e : ∀ x : Pt, d.1 * x.1 + d.2 * x.2 = dot x d := fun x => by simp only [dot]; grind
      simp only [e] at this
      exact this
    rcases h with ⟨x, y, z⟩ | ⟨x, y, z⟩
    · exact ⟨a, b, c, left b c p, left c a p, left a b p, ha, hb, hc, y, z, x, by omega, fun d => by rw [← s]; exact id d⟩
    · refine ⟨a, b, c, -left b c p, -left c a p, -left a b p, ha, hb, hc, by omega, by omega, by omega, by omega, fun d => ?_⟩
      have := id d
      rw [s] at this
      grind
/-- The point Y / N is in the hull of l: no direction parts them. -/
def Hh (l : List Pt) (N : Int) (Y : Pt) : Prop := ∀ d, ∃ x ∈ l, N * dot x d ≤ dot Y d
/-- Two lists that no direction separates have a point in common. -/
theorem common {a b : List Pt} (ha : 0 < a.length) (hb : 0 < b.length) (h : ¬ ∃ d, Sep a b d) : ∃ N X, 0 < N ∧ Hh a N X ∧ Hh b N X := by
  obtain ⟨D, hD⟩ : ∃ D, D = a.flatMap fun p => b.map fun q => sub q p := ⟨_, rfl⟩
  have mD : ∀ x, x ∈ D ↔ ∃ p ∈ a, ∃ q ∈ b, sub q p = x := fun x => by
    rw [hD]; simp only [List.mem_flatMap, List.mem_map]
  have nD : 0 < D.length := List.length_pos_of_mem ((mD _).2 ⟨_, P_mem ha, _, P_mem hb, rfl⟩)
  have ds : ∀ x y d : Pt, dot (sub x y) d = dot x d - dot y d := fun x y d => by simp only [dot, sub]; grind
  have d0 : ∀ d : Pt, dot (0, 0) d = 0 := fun d => by simp [dot]
  have hin : InP (· ∈ D) (0, 0) := by
    by_cases hi : InP (· ∈ D) (0, 0)
    · exact hi
    · obtain ⟨d, hd⟩ := sepP nD hi
      refine absurd ⟨d, fun p hp q hq => ?_⟩ h
      have := hd _ ((mD _).2 ⟨p, hp, q, hq, rfl⟩)
      rw [d0, ds] at this; omega
  obtain ⟨x, y, z, i, j, k, hx, hy, hz, i0, j0, k0, pos, hw⟩ := weights hin
  obtain ⟨p1, hp1, q1, hq1, rfl⟩ := (mD _).1 hx
  obtain ⟨p2, hp2, q2, hq2, rfl⟩ := (mD _).1 hy
  obtain ⟨p3, hp3, q3, hq3, rfl⟩ := (mD _).1 hz
  have least : ∀ (l : List Pt) (x1 x2 x3 : Pt), x1 ∈ l → x2 ∈ l → x3 ∈ l → ∀ (X : Pt), (∀ d, dot X d = i * dot x1 d + j * dot x2 d + k * dot x3 d) → Hh l (i + j + k) X := fun l x1 x2 x3 h1 h2 h3 X hX d => by
    have pick : ∃ x ∈ l, dot x d ≤ dot x1 d ∧ dot x d ≤ dot x2 d ∧ dot x d ≤ dot x3 d := by
      by_cases c1 : dot x1 d ≤ dot x2 d
      · by_cases c2 : dot x1 d ≤ dot x3 d
        · exact ⟨x1, h1, Int.le_refl _, c1, c2⟩
        · exact ⟨x3, h3, by omega, by omega, by omega⟩
      · by_cases c2 : dot x2 d ≤ dot x3 d
        · exact ⟨x2, h2, by omega, by omega, by omega⟩
        · exact ⟨x3, h3, by omega, by omega, by omega⟩
    obtain ⟨x, hx, e1, e2, e3⟩ := pick
    refine ⟨x, hx, ?_⟩
    have m1 := Int.mul_le_mul_of_nonneg_left e1 i0
    have m2 := Int.mul_le_mul_of_nonneg_left e2 j0
    have m3 := Int.mul_le_mul_of_nonneg_left e3 k0
    rw [hX d, Int.add_mul, Int.add_mul]; omega
  refine ⟨i + j + k, (i * p1.1 + j * p2.1 + k * p3.1, i * p1.2 + j * p2.2 + k * p3.2), pos, least a p1 p2 p3 hp1 hp2 hp3 _ fun d => by simp only [dot]; grind, least b q1 q2 q3 hq1 hq2 hq3 _ fun d => ?_⟩
  have := hw d
  rw [d0, ds, ds, ds] at this
  have e : dot (i * p1.1 + j * p2.1 + k * p3.1, i * p1.2 + j * p2.2 + k * p3.2) d = i * dot p1 d + j * dot p2 d + k * dot p3 d := by simp only [dot]; grind
  rw [e]; grind
end Go.Hull
end
section
set_option linter.unusedSimpArgs false
set_option linter.unusedVariables false
set_option maxHeartbeats 4000000
namespace Go.Hull
open Go Go.Am Go.Proofs

theorem left_dotJ (p q x : Pt) : left p q x = dot x (-(sub q p).2, (sub q p).1) - dot p (-(sub q p).2, (sub q p).1) := by
  simp only [left, turn, sub, dot]; grind
/-- A point Y / M on the line of a and b, told by weights. -/
theorem on_side {a b Y : Pt} {M : Int} (hz : turn (sub b a) (Y.1 - M * a.1, Y.2 - M * a.2) = 0) (d : Pt) :
    dot (sub b a) (sub b a) * dot Y d = (M * dot b (sub b a) - dot Y (sub b a)) * dot a d + (dot Y (sub b a) - M * dot a (sub b a)) * dot b d := by
  have l := lagr (sub b a) (Y.1 - M * a.1, Y.2 - M * a.2) d
  rw [hz, Int.zero_mul, Int.add_zero] at l
  simp only [dot, sub] at l ⊢
  grind
theorem exit_small {l : List Pt} (hl : 0 < l.length) (h2 : (hullI l).length ≤ 2) {N : Int} {X : Pt} (hN : 0 < N) (hX : Hh l N X) :
    ∃ p ∈ l, ∃ p' ∈ l, ∃ m i j : Int, 0 < m ∧ 0 ≤ i ∧ 0 ≤ j ∧ (∀ d, m * dot X d = i * dot p d + j * dot p' d) ∧ m * N = i + j := by
  have V := hullV l hl
  have ne := V.T.ne
  obtain ⟨x0, e0⟩ : ∃ x0, x0 = vx l (hullI l) 0 := ⟨_, rfl⟩
  obtain ⟨x1, e1⟩ : ∃ x1, x1 = vx l (hullI l) ((hullI l).length - 1) := ⟨_, rfl⟩
  have m0 : x0 ∈ l := by rw [e0]; exact isV_mem V ⟨0, ne, rfl⟩
  have m1 : x1 ∈ l := by rw [e1]; exact isV_mem V ⟨_, by omega, rfl⟩
  have low : ∀ d (c : Int), c ≤ dot x0 d → c ≤ dot x1 d → N * c ≤ dot X d := fun d c h0 h1 => by
    obtain ⟨x, hx, hle⟩ := hX d
    have := hull_top hl (neg d) (-c) (fun q hq => by
      obtain ⟨m, hm, rfl⟩ := hq
      rw [dot_neg]
      by_cases e : m = 0
      · rw [e, ← e0]; omega
      · rw [show m = (hullI l).length - 1 by omega, ← e1]; omega) x hx
    rw [dot_neg] at this
    have := Int.mul_le_mul_of_nonneg_left (show c ≤ dot x d by omega) (Int.le_of_lt hN)
    omega
  by_cases hx : x0 = x1
  · refine ⟨x0, m0, x0, m0, 1, N, 0, by omega, by omega, by omega, fun d => ?_, by omega⟩
    have a1 := low d (dot x0 d) (Int.le_refl _) (by rw [hx]; exact Int.le_refl _)
    have a2 := low (neg d) (dot x0 (neg d)) (Int.le_refl _) (by rw [hx]; exact Int.le_refl _)
    rw [dot_neg, dot_neg, Int.mul_neg] at a2
    omega
  · have he : sub x1 x0 ≠ (0, 0) := fun h => hx (by
      simp only [sub, Prod.mk.injEq] at h; exact Prod.ext (by omega) (by omega))
    have pos := dot_self_pos he
    have ee : dot (sub x1 x0) (sub x1 x0) = dot x1 (sub x1 x0) - dot x0 (sub x1 x0) := by simp only [dot, sub]; grind
    have b0 := low (sub x1 x0) (dot x0 (sub x1 x0)) (Int.le_refl _) (by omega)
    have b1 := low (neg (sub x1 x0)) (dot x1 (neg (sub x1 x0))) (by rw [dot_neg, dot_neg]; omega) (Int.le_refl _)
    rw [dot_neg, dot_neg, Int.mul_neg] at b1
    have cJ : dot x1 (-(sub x1 x0).2, (sub x1 x0).1) = dot x0 (-(sub x1 x0).2, (sub x1 x0).1) := by simp only [dot, sub]; grind
    have c0 := low (-(sub x1 x0).2, (sub x1 x0).1) (dot x0 (-(sub x1 x0).2, (sub x1 x0).1)) (Int.le_refl _) (by omega)
    have c1 := low (neg (-(sub x1 x0).2, (sub x1 x0).1)) (dot x0 (neg (-(sub x1 x0).2, (sub x1 x0).1))) (Int.le_refl _) (by rw [dot_neg, dot_neg]; omega)
    rw [dot_neg, dot_neg, Int.mul_neg] at c1
    have hz : turn (sub x1 x0) (X.1 - N * x0.1, X.2 - N * x0.2) = 0 := by
      have : turn (sub x1 x0) (X.1 - N * x0.1, X.2 - N * x0.2) = dot X (-(sub x1 x0).2, (sub x1 x0).1) - N * dot x0 (-(sub x1 x0).2, (sub x1 x0).1) := by simp only [dot, turn]; grind
      omega
    refine ⟨x0, m0, x1, m1, _, _, _, pos, by omega, by omega, on_side hz, ?_⟩
    rw [ee]; grind
theorem exit_big {l : List Pt} (hl : 0 < l.length) (h2 : 2 < (hullI l).length) {N : Int} {X : Pt} (hN : 0 < N) (hX : Hh l N X) {q : Pt} (hq : ¬ InP (· ∈ l) q) :
    ∃ p ∈ l, ∃ p' ∈ l, ∃ s t m i j : Int, 0 < s ∧ 0 ≤ t ∧ 0 < m ∧ 0 ≤ i ∧ 0 ≤ j ∧ (∀ d, m * (s * dot X d + t * dot q d) = i * dot p d + j * dot p' d) ∧ m * (s * N + t) = i + j := by
  have V := hullV l hl
  obtain ⟨n, hn⟩ : ∃ n, n = (hullI l).length := ⟨_, rfl⟩
  obtain ⟨x, hx⟩ : ∃ x : Nat → Pt, x = vx l (hullI l) := ⟨_, rfl⟩
  have big : ∀ i p, p ∈ l → 0 ≤ left (x i) (x (i + 1)) p := fun i p hp => by rw [hx]; exact vx_big V.T h2 i hp
  have trn : ∀ i, 0 < left (x i) (x (i + 1)) (x (i + 2)) := fun i => by rw [hx]; exact vx_turn V.T h2 i
  have mem : ∀ i, x i ∈ l := fun i => by rw [hx]; exact vx_mem V.T i
  have per : ∀ i, x (i + n) = x i := fun i => by rw [hx, hn]; exact vx_add i
  -- the forms of the sides
  obtain ⟨F, hF⟩ : ∃ F : Nat → Int → Pt → Int, F = fun i M Y => turn (sub (x (i + 1)) (x i)) (Y.1 - M * (x i).1, Y.2 - M * (x i).2) := ⟨_, rfl⟩
  have FX : ∀ i, 0 ≤ F i N X := fun i => by
    obtain ⟨y, hy, hle⟩ := hX (-(sub (x (i + 1)) (x i)).2, (sub (x (i + 1)) (x i)).1)
    have h1 := big i y hy
    rw [left_dotJ] at h1
    have h3 := Int.mul_le_mul_of_nonneg_left (show dot (x i) (-(sub (x (i + 1)) (x i)).2, (sub (x (i + 1)) (x i)).1) ≤ dot y (-(sub (x (i + 1)) (x i)).2, (sub (x (i + 1)) (x i)).1) by omega) (Int.le_of_lt hN)
    have e : F i N X = dot X (-(sub (x (i + 1)) (x i)).2, (sub (x (i + 1)) (x i)).1) - N * dot (x i) (-(sub (x (i + 1)) (x i)).2, (sub (x (i + 1)) (x i)).1) := by
      rw [hF]; simp only [turn, dot]; grind
    omega
  have Fq : ∀ i, F i 1 q = left (x i) (x (i + 1)) q := fun i => by rw [hF]; simp only [turn, left, sub]; grind
  have Flin : ∀ i s t, F i (s * N + t) (s * X.1 + t * q.1, s * X.2 + t * q.2) = s * F i N X + t * F i 1 q := fun i s t => by rw [hF]; simp only [turn]; grind
  rcases first_hit (1, 0) (0, 1) ((List.range n).map fun i => (- F i N X, - F i 1 q)) (fun w hw => by
      obtain ⟨i, _, rfl⟩ := List.mem_map.1 hw
      have := FX i
      simp only [dot]; omega) with hall | ⟨w, hw, hpos, hall⟩
  · exfalso
    refine hq ((in_iff V q).2 ?_)
    unfold inH
    rw [if_neg (by omega)]
    intro i hi
    have := hall _ (List.mem_map.2 ⟨i, List.mem_range.2 (by omega), rfl⟩)
    simp only [dot] at this
    have e := Fq i
    rw [hx] at e
    omega
  · obtain ⟨i, hi, rfl⟩ := List.mem_map.1 hw
    simp only [dot] at hpos
    obtain ⟨s, hs⟩ : ∃ s, s = - F i 1 q := ⟨_, rfl⟩
    obtain ⟨t, ht⟩ : ∃ t, t = F i N X := ⟨_, rfl⟩
    obtain ⟨M, hM⟩ : ∃ M, M = s * N + t := ⟨_, rfl⟩
    obtain ⟨Y, hY⟩ : ∃ Y : Pt, Y = (s * X.1 + t * q.1, s * X.2 + t * q.2) := ⟨_, rfl⟩
    have FY : ∀ j, F j M Y = s * F j N X + t * F j 1 q := fun j => by rw [hM, hY]; exact Flin j s t
    have FYn : ∀ j, j < n → 0 ≤ F j M Y := fun j hj => by
      have := hall _ (List.mem_map.2 ⟨j, List.mem_range.2 hj, rfl⟩)
      simp only [dot] at this
      rw [FY, hs, ht]
      grind
    have Fper : ∀ j, F j M Y = F (j % n) M Y := fun j => by
      have p1 : ∀ j, x j = x (j % n) := fun j => by rw [hx, hn]; unfold vx; rw [Nat.mod_mod]
      have p2 : x (j % n + 1) = x (j + 1) := by rw [hx, hn]; unfold vx; rw [Nat.mod_add_mod]
      rw [hF]; simp only [p2, ← p1 j]
    have FYa : ∀ j, 0 ≤ F j M Y := fun j => by rw [Fper]; exact FYn _ (Nat.mod_lt _ (by omega))
    have F0 : F i M Y = 0 := by rw [FY, hs, ht]; grind
    have hz : turn (sub (x (i + 1)) (x i)) (Y.1 - M * (x i).1, Y.2 - M * (x i).2) = 0 := by rw [hF] at F0; exact F0
    have dY : ∀ d, dot Y d = s * dot X d + t * dot q d := fun d => by rw [hY]; simp only [dot]; grind
    obtain ⟨e, he⟩ : ∃ e, e = sub (x (i + 1)) (x i) := ⟨_, rfl⟩
    have ez : e ≠ (0, 0) := fun h => by
      have h1 := trn i
      have : left (x i) (x (i + 1)) (x (i + 2)) = turn e (sub (x (i + 2)) (x i)) := by rw [he]; rfl
      rw [this, h] at h1
      simp [turn] at h1
    have pos := dot_self_pos ez
    -- before and behind
    have hn1 : 0 ≤ dot Y e - M * dot (x i) e := by
      have h1 := FYa (i + (n - 1))
      have h2' := trn (i + (n - 1))
      have p1 : x (i + (n - 1) + 1) = x i := by rw [show i + (n - 1) + 1 = i + n by omega]; exact per i
      have p2 : x (i + (n - 1) + 2) = x (i + 1) := by rw [show i + (n - 1) + 2 = (i + 1) + n by omega]; exact per (i + 1)
      rw [p1, p2] at h2'
      rw [hF] at h1
      simp only [p1] at h1
      obtain ⟨z, hz'⟩ : ∃ z, z = x (i + (n - 1)) := ⟨_, rfl⟩
      rw [← hz'] at h1 h2'
      have l1 : dot e e * turn (sub (x i) z) (Y.1 - M * z.1, Y.2 - M * z.2) = (dot Y e - M * dot (x i) e) * left z (x i) (x (i + 1)) := by
        rw [he]
        simp only [turn, sub, dot, left] at hz ⊢
        grind
      have l2 : 0 ≤ dot e e * turn (sub (x i) z) (Y.1 - M * z.1, Y.2 - M * z.2) := Int.mul_nonneg (by omega) h1
      by_cases hq' : 0 ≤ dot Y e - M * dot (x i) e
      · exact hq'
      · have := Int.mul_neg_of_neg_of_pos (show dot Y e - M * dot (x i) e < 0 by omega) h2'
        omega
    have hn2 : 0 ≤ M * dot (x (i + 1)) e - dot Y e := by
      have h1 := FYa (i + 1)
      have h2' := trn i
      rw [hF] at h1
      simp only at h1
      rw [show i + 1 + 1 = i + 2 from rfl] at h1
      have l1 : dot e e * turn (sub (x (i + 2)) (x (i + 1))) (Y.1 - M * (x (i + 1)).1, Y.2 - M * (x (i + 1)).2) = (M * dot (x (i + 1)) e - dot Y e) * left (x i) (x (i + 1)) (x (i + 2)) := by
        rw [he]
        simp only [turn, sub, dot, left] at hz ⊢
        grind
      have l2 : 0 ≤ dot e e * turn (sub (x (i + 2)) (x (i + 1))) (Y.1 - M * (x (i + 1)).1, Y.2 - M * (x (i + 1)).2) := Int.mul_nonneg (by omega) h1
      by_cases hq' : 0 ≤ M * dot (x (i + 1)) e - dot Y e
      · exact hq'
      · have := Int.mul_neg_of_neg_of_pos (show M * dot (x (i + 1)) e - dot Y e < 0 by omega) h2'
        omega
    refine ⟨x i, mem i, x (i + 1), mem (i + 1), s, t, dot e e, M * dot (x (i + 1)) e - dot Y e, dot Y e - M * dot (x i) e, by rw [hs]; omega, by rw [ht]; exact FX i, pos, hn2, hn1, fun d => ?_, ?_⟩
    · rw [← dY, he]; exact on_side hz d
    · rw [← hM, he]; simp only [dot, sub]; grind
end Go.Hull
end
section
set_option linter.unusedSimpArgs false
set_option linter.unusedVariables false
set_option maxHeartbeats 4000000
namespace Go.Hull
open Go Go.Am Go.Proofs

theorem exit_side {l : List Pt} (hl : 0 < l.length) {N : Int} {X : Pt} (hN : 0 < N) (hX : Hh l N X) {q : Pt} (hq : ¬ InP (· ∈ l) q) :
    ∃ p ∈ l, ∃ p' ∈ l, ∃ s t m i j : Int, 0 < s ∧ 0 ≤ t ∧ 0 < m ∧ 0 ≤ i ∧ 0 ≤ j ∧ (∀ d, m * (s * dot X d + t * dot q d) = i * dot p d + j * dot p' d) ∧ m * (s * N + t) = i + j := by
  by_cases h2 : (hullI l).length ≤ 2
  · obtain ⟨p, hp, p', hp', m, i, j, m0, i0, j0, h1, h3⟩ := exit_small hl h2 hN hX
    exact ⟨p, hp, p', hp', 1, 0, m, i, j, by omega, by omega, m0, i0, j0, fun d => by rw [← h1 d]; congr 1; omega, by rw [← h3]; congr 1; omega⟩
  · exact exit_big hl (by omega) hN hX hq
theorem out_in {l : List Pt} (hl : 0 < l.length) {x u u' : Pt} (hx : ¬ InP (· ∈ l) x) (hu : u ∈ l) (hu' : u' ∈ l) {i j : Int} (hi : 0 ≤ i) (hj : 0 ≤ j) (hs : 0 < i + j) (h : ∀ d, (i + j) * dot x d = i * dot u d + j * dot u' d) : False := by
  obtain ⟨d, hd⟩ := sepP hl hx
  have h1 := hd u hu
  have h2 := hd u' hu'
  have e := h d
  have e' : i * (dot u d - dot x d) + j * (dot u' d - dot x d) = 0 := by grind
  have p1 : 0 ≤ i * (dot u d - dot x d) := Int.mul_nonneg hi (by omega)
  have p2 : 0 ≤ j * (dot u' d - dot x d) := Int.mul_nonneg hj (by omega)
  by_cases hi0 : 0 < i
  · have := Int.mul_pos hi0 (show 0 < dot u d - dot x d by omega); omega
  · have := Int.mul_pos (show 0 < j by omega) (show 0 < dot u' d - dot x d by omega); omega
theorem coll {a b : List Pt} (ha : 0 < a.length) (hb : 0 < b.length) (na : ∀ p ∈ a, ¬ InP (· ∈ b) p) (nb : ∀ q ∈ b, ¬ InP (· ∈ a) q) {p p' q q' : Pt} (hp : p ∈ a) (hp' : p' ∈ a) (hq : q ∈ b) (hq' : q' ∈ b)
    {i j k m : Int} (i0 : 0 < i) (j0 : 0 < j) (k0 : 0 < k) (m0 : 0 < m) (hs : i + j = k + m) (h : ∀ d, i * dot p d + j * dot p' d = k * dot q d + m * dot q' d) (hA : left p p' q = 0) (hB : left p p' q' = 0) : False := by
  obtain ⟨u, hu⟩ : ∃ u, u = sub p' p := ⟨_, rfl⟩
  by_cases h0 : u = (0, 0)
  · have e : p' = p := by
      rw [hu] at h0
      simp only [sub, Prod.mk.injEq] at h0; exact Prod.ext (by omega) (by omega)
    refine out_in hb (na p hp) hq hq' (Int.le_of_lt k0) (Int.le_of_lt m0) (by omega) fun d => ?_
    rw [← h d, e, ← hs]; grind
  · have pos := dot_self_pos h0
    obtain ⟨L, hL⟩ : ∃ L, L = dot u u := ⟨_, rfl⟩
    obtain ⟨f, hf⟩ : ∃ f, f = dot (sub q p) u := ⟨_, rfl⟩
    obtain ⟨g, hg⟩ : ∃ g, g = dot (sub q' p) u := ⟨_, rfl⟩
    rw [← hL] at pos
    have dd : ∀ x y d : Pt, dot (sub x y) d = dot x d - dot y d := fun x y d => by simp only [dot, sub]; grind
    have cm : ∀ x y : Pt, dot x y = dot y x := fun x y => by simp only [dot]; grind
    have tq : turn u (sub q p) = 0 := by rw [hu]; exact hA
    have tq' : turn u (sub q' p) = 0 := by rw [hu]; exact hB
    have lq : ∀ d, L * (dot q d - dot p d) = f * (dot p' d - dot p d) := fun d => by
      have := lagr u (sub q p) d
      rw [tq, Int.zero_mul, Int.add_zero, ← hL, cm u (sub q p), ← hf, dd, hu, dd] at this
      exact this
    have lq' : ∀ d, L * (dot q' d - dot p d) = g * (dot p' d - dot p d) := fun d => by
      have := lagr u (sub q' p) d
      rw [tq', Int.zero_mul, Int.add_zero, ← hL, cm u (sub q' p), ← hg, dd, hu, dd] at this
      exact this
    have hw : j * L = k * f + m * g := by
      have e := h u
      rw [dd] at hf hg
      have e2 : dot p' u - dot p u = L := by rw [hL, ← dd, ← hu]
      have e3 : i = k + m - j := by omega
      rw [e3] at e
      rw [hf, hg, ← e2]; grind
    have inA : ∀ x f, x ∈ b → 0 ≤ f → f ≤ L → (∀ d, L * (dot x d - dot p d) = f * (dot p' d - dot p d)) → False := fun x f hx h1 h2 h3 =>
      out_in ha (nb x hx) hp hp' (i := L - f) (j := f) (by omega) h1 (by omega) fun d => by
        have := h3 d; grind
    have inB : ∀ x y f g, x ∈ b → y ∈ b → f < 0 → L < g → (∀ d, L * (dot x d - dot p d) = f * (dot p' d - dot p d)) → (∀ d, L * (dot y d - dot p d) = g * (dot p' d - dot p d)) → False := fun x y f g hx hy h1 h2 h3 h4 =>
      out_in hb (na p hp) hx hy (i := g) (j := -f) (by omega) (by omega) (by omega) fun d => by
        have e3 := h3 d
        have e4 := h4 d
        have : L * (g * (dot x d - dot p d) + -f * (dot y d - dot p d)) = 0 := by
          have : L * (g * (dot x d - dot p d) + -f * (dot y d - dot p d)) = g * (L * (dot x d - dot p d)) - f * (L * (dot y d - dot p d)) := by grind
          rw [this, e3, e4]; grind
        have := (Int.mul_eq_zero.1 this).resolve_left (by omega)
        grind
    by_cases f0 : f < 0
    · by_cases g0 : g < 0
      · have p1 := Int.mul_pos j0 pos
        have p2 := Int.mul_neg_of_pos_of_neg k0 f0
        have p3 := Int.mul_neg_of_pos_of_neg m0 g0
        omega
      · by_cases gL : g ≤ L
        · exact inA q' g hq' (by omega) gL lq'
        · exact inB q q' f g hq hq' f0 (by omega) lq lq'
    · by_cases fL : f ≤ L
      · exact inA q f hq (by omega) fL lq
      · by_cases g0 : g < 0
        · exact inB q' q g f hq' hq g0 (by omega) lq' lq
        · by_cases gL : g ≤ L
          · exact inA q' g hq' (by omega) gL lq'
          · have p1 := Int.mul_lt_mul_of_pos_left (show L < f by omega) k0
            have p2 := Int.mul_lt_mul_of_pos_left (show L < g by omega) m0
            have p3 := Int.mul_pos i0 pos
            have e : i * L + j * L = k * L + m * L := by rw [← Int.add_mul, ← Int.add_mul, hs]
            omega
theorem cross_sides {a b : List Pt} (ha : 0 < a.length) (hb : 0 < b.length) (na : ∀ p ∈ a, ¬ InP (· ∈ b) p) (nb : ∀ q ∈ b, ¬ InP (· ∈ a) q) {p p' q q' : Pt} (hp : p ∈ a) (hp' : p' ∈ a) (hq : q ∈ b) (hq' : q' ∈ b)
    {i j k m : Int} (i0 : 0 ≤ i) (j0 : 0 ≤ j) (k0 : 0 ≤ k) (m0 : 0 ≤ m) (hpos : 0 < i + j) (hs : i + j = k + m) (h : ∀ d, i * dot p d + j * dot p' d = k * dot q d + m * dot q' d) :
    left p p' q * left p p' q' < 0 ∧ left q q' p * left q q' p' < 0 := by
  have i1 : 0 < i := by
    by_cases e : 0 < i
    · exact e
    · exact (out_in hb (na p' hp') hq hq' k0 m0 (by omega) fun d => by
        have := h d
        rw [show i = 0 by omega] at this hs
        rw [← hs]; grind).elim
  have j1 : 0 < j := by
    by_cases e : 0 < j
    · exact e
    · exact (out_in hb (na p hp) hq hq' k0 m0 (by omega) fun d => by
        have := h d
        rw [show j = 0 by omega] at this hs
        rw [← hs]; grind).elim
  have k1 : 0 < k := by
    by_cases e : 0 < k
    · exact e
    · exact (out_in ha (nb q' hq') hp hp' i0 j0 (by omega) fun d => by
        have := h d
        rw [show k = 0 by omega] at this hs
        rw [hs]; grind).elim
  have m1 : 0 < m := by
    by_cases e : 0 < m
    · exact e
    · exact (out_in ha (nb q hq) hp hp' i0 j0 (by omega) fun d => by
        have := h d
        rw [show m = 0 by omega] at this hs
        rw [hs]; grind).elim
  have lin : ∀ {p p' q q' : Pt} {i j k m : Int}, i + j = k + m → (∀ d, i * dot p d + j * dot p' d = k * dot q d + m * dot q' d) → k * left p p' q + m * left p p' q' = 0 := fun {p p' q q' i j k m} hs h => by
    have e := h (-(sub p' p).2, (sub p' p).1)
    rw [left_dotJ, left_dotJ]
    have e2 : dot p' (-(sub p' p).2, (sub p' p).1) = dot p (-(sub p' p).2, (sub p' p).1) := by simp only [dot, sub]; grind
    rw [e2] at e
    have e3 : i = k + m - j := by omega
    rw [e3] at e
    grind
  have sg : ∀ {k m A B : Int}, 0 < k → 0 < m → k * A + m * B = 0 → ¬ (A = 0 ∧ B = 0) → A * B < 0 := fun {k m A B} k1 m1 e hn => by
    by_cases hA : 0 < A
    · have p1 := Int.mul_pos k1 hA
      have : B < 0 := by
        by_cases hB : B < 0
        · exact hB
        · have := Int.mul_nonneg (Int.le_of_lt m1) (show 0 ≤ B by omega); omega
      exact Int.mul_neg_of_pos_of_neg hA this
    · by_cases hA0 : A = 0
      · rw [hA0, Int.mul_zero, Int.zero_add] at e
        exact absurd ⟨hA0, (Int.mul_eq_zero.1 e).resolve_left (by omega)⟩ hn
      · have p1 := Int.mul_neg_of_pos_of_neg k1 (show A < 0 by omega)
        have : 0 < B := by
          by_cases hB : 0 < B
          · exact hB
          · have := Int.mul_nonpos_of_nonneg_of_nonpos (Int.le_of_lt m1) (show B ≤ 0 by omega); omega
        exact Int.mul_neg_of_neg_of_pos (by omega) this
  have h' : ∀ d, k * dot q d + m * dot q' d = i * dot p d + j * dot p' d := fun d => (h d).symm
  exact ⟨sg k1 m1 (lin hs h) fun ⟨e1, e2⟩ => coll ha hb na nb hp hp' hq hq' i1 j1 k1 m1 hs h e1 e2,
    sg i1 j1 (lin hs.symm h') fun ⟨e1, e2⟩ => coll hb ha nb na hq hq' hp hp' k1 m1 i1 j1 hs.symm h' e1 e2⟩
theorem meet {a b : List Pt} (ha : 0 < a.length) (hb : 0 < b.length) (h : ¬ ∃ d, Sep a b d) (na : ∀ p ∈ a, ¬ InP (· ∈ b) p) (nb : ∀ q ∈ b, ¬ InP (· ∈ a) q) :
    ∃ p ∈ a, ∃ p' ∈ a, ∃ q ∈ b, ∃ q' ∈ b, left p p' q * left p p' q' < 0 ∧ left q q' p * left q q' p' < 0 := by
  obtain ⟨N, X, hN, hXa, hXb⟩ := common ha hb h
  obtain ⟨p, hp, p', hp', s, t, m, i, j, s0, t0, m0, i0, j0, e1, e2⟩ := exit_side ha hN hXa (nb _ (P_mem hb))
  obtain ⟨q0, hq0⟩ : ∃ q0, q0 = P b 0 := ⟨_, rfl⟩
  have mq0 : q0 ∈ b := by rw [hq0]; exact P_mem hb
  rw [← hq0] at e1
  obtain ⟨Y, hY⟩ : ∃ Y : Pt, Y = (s * X.1 + t * q0.1, s * X.2 + t * q0.2) := ⟨_, rfl⟩
  have dY : ∀ d, dot Y d = s * dot X d + t * dot q0 d := fun d => by rw [hY]; simp only [dot]; grind
  have sN := Int.mul_pos s0 hN
  have hYb : Hh b (s * N + t) Y := fun d => by
    obtain ⟨x, hx, hle⟩ := hXb d
    have l1 := Int.mul_le_mul_of_nonneg_left hle (Int.le_of_lt s0)
    rw [← Int.mul_assoc] at l1
    by_cases c : dot x d ≤ dot q0 d
    · have l2 := Int.mul_le_mul_of_nonneg_left c t0
      exact ⟨x, hx, by rw [dY, Int.add_mul]; omega⟩
    · have l2 := Int.mul_le_mul_of_nonneg_left (show dot q0 d ≤ dot x d by omega) (Int.le_of_lt sN)
      exact ⟨q0, mq0, by rw [dY, Int.add_mul]; omega⟩
  obtain ⟨q, hq, q', hq', s', t', m', i', j', s0', t0', m0', i0', j0', e1', e2'⟩ := exit_side hb (by omega) hYb (na p hp)
  have wp := Int.mul_nonneg (Int.le_of_lt m0') (Int.add_nonneg (Int.mul_nonneg (Int.le_of_lt s0') i0) (Int.mul_nonneg (Int.le_of_lt m0) t0'))
  have wp' := Int.mul_nonneg (Int.le_of_lt m0') (Int.mul_nonneg (Int.le_of_lt s0') j0)
  have wq := Int.mul_nonneg (Int.le_of_lt m0) i0'
  have wq' := Int.mul_nonneg (Int.le_of_lt m0) j0'
  have hsum : m' * (s' * i + m * t') + m' * (s' * j) = m * i' + m * j' := by
    have : m' * (s' * i + m * t') + m' * (s' * j) = m' * (s' * (i + j) + m * t') := by grind
    rw [this, ← e2, ← Int.mul_add, ← e2']; grind
  have hposs : 0 < m' * (s' * i + m * t') + m' * (s' * j) := by
    rw [hsum, ← Int.mul_add, ← e2']
    exact Int.mul_pos m0 (Int.mul_pos m0' (by have := Int.mul_pos s0' (show 0 < s * N + t by omega); omega))
  refine ⟨p, hp, p', hp', q, hq, q', hq', cross_sides ha hb na nb hp hp' hq hq' wp wp' wq wq' hposs hsum fun d => ?_⟩
  have a1 := e1 d
  have a2 := e1' d
  rw [← dY] at a1
  have : m * (i' * dot q d + j' * dot q' d) = m' * (s' * (i * dot p d + j * dot p' d) + m * t' * dot p d) := by
    rw [← a2, ← a1]; grind
  grind
end Go.Hull
end
