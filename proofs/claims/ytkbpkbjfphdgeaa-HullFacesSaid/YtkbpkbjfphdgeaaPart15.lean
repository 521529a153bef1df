/- Antipodal pairs: the code's list is the reference's; laws.
   Conditions: none. -/
import Derived.Test.YtkbpkbjfphdgeaaPart14
set_option linter.unusedSimpArgs false
set_option linter.unusedVariables false
set_option maxHeartbeats 4000000
namespace Go.Hull
open Go Go.Am Go.Proofs

theorem insR_perm (lt : Nat → Nat → Bool) (x : Nat) : ∀ (r : List Nat), (insR lt x r).Perm (x :: r) := by
  intro r
  induction r with
  | nil => exact .refl _
  | cons y r ih =>
    simp only [insR]
    split
    · exact (ih.cons y).trans (.swap x y r)
    · exact .refl _
theorem fold_perm (lt : Nat → Nat → Bool) : ∀ (rest r : List Nat), (rest.foldl (fun r x => insR lt x r) r).Perm (rest ++ r) := by
  intro rest
  induction rest with
  | nil => intro r; exact .refl _
  | cons x rest ih =>
    intro r
    rw [List.foldl_cons]
    refine (ih _).trans ?_
    refine ((insR_perm lt x r).append_left rest).trans ?_
    rw [List.cons_append]
    exact List.perm_middle
theorem insort_perm (lt : Nat → Nat → Bool) (xs : List Nat) : (insort lt xs).Perm xs := by
  cases xs with
  | nil => exact .refl _
  | cons a rest =>
    rw [insort_eq]
    refine (List.reverse_perm _).trans ((fold_perm lt rest [a]).trans ?_)
    exact (List.perm_append_comm).trans (.refl _)
/-- The vertices in the order of their numbers. -/
theorem vS_eq (l : List Pt) : vS l = (List.range l.length).filter (vertexB l) := by
  have p1 : (vS l).Perm (hullI l) := insort_perm _ _
  refine List.Perm.eq_of_pairwise (le := fun a b => a ≤ b) (fun a b _ _ h1 h2 => Nat.le_antisymm h1 h2) ?_ ?_ ?_
  · exact (insort_sorted ltN (fun a b h => by simp only [ltN, decide_eq_true_eq, decide_eq_false_iff_not] at *; omega) (fun a b c h1 h2 => by simp only [ltN, decide_eq_false_iff_not] at *; omega) (hullI l)).imp fun {a b} h => by
      simp only [ltN, decide_eq_false_iff_not] at h; omega
  · exact (List.pairwise_lt_range.imp fun {a b} h => Nat.le_of_lt h).filter _
  · refine (List.perm_ext_iff_of_nodup ((hull_nodup l).perm p1.symm) (List.nodup_range.filter _)).2 fun x => ?_
    rw [p1.mem_iff, List.mem_filter, List.mem_range]
    constructor
    · intro h; exact ⟨hull_mem x h, (vertexB_iff (hull_mem x h)).2 h⟩
    · intro h; exact (vertexB_iff h.1).1 h.2
/-- All pairs of a list that are told. -/
def prs (ok : Nat → Nat → Bool) : List Nat → List Pt
  | [] => []
  | a :: t => ((t.filter (ok a)).map fun b : Nat => ((a : Int), (b : Int))) ++ prs ok t
theorem qJ_eq (S : List Nat) (ok : Nat → Nat → Bool) (i : Nat) (s : List Pt) : ∀ m, i + 1 + m ≤ S.length → qJ S ok i s m = s ++ (((S.drop (i + 1)).take m).filter (ok (S.getD i 0))).map fun b : Nat => (((S.getD i 0 : Nat) : Int), (b : Int)) := by
  intro m
  induction m with
  | zero => intro _; simp [qJ]
  | succ m ih =>
    intro h
    have e : (S.drop (i + 1)).take (m + 1) = (S.drop (i + 1)).take m ++ [S.getD (i + 1 + m) 0] := by
      rw [take_succN (S.drop (i + 1)) (by rw [List.length_drop]; omega)]
      congr 2
      rw [List.getD_eq_getElem?_getD, List.getD_eq_getElem?_getD, List.getElem?_drop]
    rw [qJ, ih (by omega), e, List.filter_append, List.map_append, List.append_assoc]
    congr 2
    by_cases hk : ok (S.getD i 0) (S.getD (i + 1 + m) 0) = true
    · rw [if_pos hk, List.filter_cons_of_pos hk]; rfl
    · rw [if_neg hk, List.filter_cons_of_neg hk]; rfl
theorem drop_consN (S : List Nat) (i : Nat) (h : i < S.length) : S.drop i = S.getD i 0 :: S.drop (i + 1) := by
  rw [List.drop_eq_getElem_cons h, List.getD_eq_getElem?_getD, List.getElem?_eq_getElem h]; rfl
theorem qI_eq (S : List Nat) (ok : Nat → Nat → Bool) : ∀ i, i ≤ S.length → qI S ok i ++ prs ok (S.drop i) = prs ok S := by
  intro i
  induction i with
  | zero => intro _; simp [qI]
  | succ i ih =>
    intro h
    rw [← ih (by omega), drop_consN S i (by omega), prs, qI, qJ_eq S ok i _ _ (by omega), List.append_assoc, List.take_of_length_le (by rw [List.length_drop]; omega)]
theorem qI_prs (S : List Nat) (ok : Nat → Nat → Bool) : qI S ok S.length = prs ok S := by
  have := qI_eq S ok S.length (Nat.le_refl _)
  rwa [List.drop_length, prs, List.append_nil] at this
theorem range_getD {n i : Nat} (h : i < n) : (List.range n).getD i 0 = i := by
  rw [List.getD_eq_getElem?_getD, List.getElem?_eq_getElem (by simpa using h)]; simp
theorem prJ_q (ok : Nat → Nat → Bool) (n i : Nat) (s : List Pt) : ∀ m, i + 1 + m ≤ n → prJ ok i s m = qJ (List.range n) ok i s m := by
  intro m
  induction m with
  | zero => intro _; rfl
  | succ m ih => intro h; rw [prJ, qJ, ih (by omega), range_getD (show i < n by omega), range_getD (show i + 1 + m < n by omega)]
theorem prI_q (ok : Nat → Nat → Bool) (n : Nat) : ∀ i, i ≤ n → prI ok n i = qI (List.range n) ok i := by
  intro i
  induction i with
  | zero => intro _; rfl
  | succ i ih => intro h; rw [prI, qI, ih (by omega), List.length_range, prJ_q ok n i _ _ (by omega)]
theorem prI_prs (ok : Nat → Nat → Bool) (n : Nat) : prI ok n n = prs ok (List.range n) := by
  have := qI_prs (List.range n) ok
  rw [List.length_range] at this
  rw [prI_q ok n n (Nat.le_refl _), this]
theorem prs_filter (vb : Nat → Bool) (ok : Nat → Nat → Bool) : ∀ (L : List Nat), prs (fun a b => vb a && (vb b && ok a b)) L = prs ok (L.filter vb) := by
  intro L
  induction L with
  | nil => rfl
  | cons a t ih =>
    rw [prs, ih]
    cases h : vb a with
    | true =>
      rw [List.filter_cons_of_pos h, prs, List.filter_filter]
      congr 2
      apply List.filter_congr
      intro x _
      simp [Bool.and_comm]
    | false =>
      rw [List.filter_cons_of_neg (by rw [h]; decide)]
      have : t.filter (fun b => false && (vb b && ok a b)) = [] := by
        rw [List.filter_eq_nil_iff]; intro x _; simp
      rw [this]; rfl
theorem prs_congr {ok ok' : Nat → Nat → Bool} : ∀ {L : List Nat}, L.Pairwise (fun a b => ok a b = ok' a b) → prs ok L = prs ok' L := by
  intro L
  induction L with
  | nil => intro _; rfl
  | cons a t ih =>
    intro h
    obtain ⟨h1, h2⟩ := List.pairwise_cons.1 h
    rw [prs, prs, ih h2]
    congr 2
    exact List.filter_congr h1
theorem nrm_neg (p q : Pt) : P (nrm p q) 1 = neg (P (nrm p q) 0) := by
  show ((sub q p).2, -(sub q p).1) = neg (-(sub q p).2, (sub q p).1)
  simp only [neg, Int.neg_neg]
theorem fcB_iff {l : List Pt} (hl : 0 < l.length) {i j x y : Nat} (hi : i < l.length) (hj : j < l.length) : fcB l i j x y = true ↔ P l x ≠ P l y ∧ (Opp l (P l i) (P l j) (P (nrm (P l x) (P l y)) 0) ∨ Opp l (P l i) (P l j) (P (nrm (P l x) (P l y)) 1)) := by
  have swp : ∀ p d : Pt, (∀ q ∈ l, dot q (neg d) ≤ dot p (neg d)) ↔ ∀ q ∈ l, dot p d ≤ dot q d := fun p d => by
    constructor <;> intro h q hq <;> have := h q hq <;> simp only [dot_neg] at * <;> omega
  have swp' : ∀ p d : Pt, (∀ q ∈ l, dot p (neg d) ≤ dot q (neg d)) ↔ ∀ q ∈ l, dot q d ≤ dot p d := fun p d => by
    constructor <;> intro h q hq <;> have := h q hq <;> simp only [dot_neg] at * <;> omega
  simp only [fcB, decide_eq_true_eq, tpI_iff hl _ hi, tpI_iff hl _ hj, nrm_neg, Opp, swp, swp']
theorem facB_iff {l : List Pt} (hl : 0 < l.length) {i j : Nat} (hi : i < l.length) (hj : j < l.length) : facB l i j = true ↔ ∃ p ∈ l, ∃ q ∈ l, p ≠ q ∧ ∃ d, (d = (-(sub q p).2, (sub q p).1) ∨ d = ((sub q p).2, -(sub q p).1)) ∧ Opp l (P l i) (P l j) d := by
  simp only [facB, decide_eq_true_eq]
  constructor
  · rintro ⟨x, hx, y, hy, h⟩
    obtain ⟨h1, h2⟩ := (fcB_iff hl hi hj).1 h
    refine ⟨P l x, P_mem hx, P l y, P_mem (by omega), h1, ?_⟩
    rcases h2 with h2 | h2
    · exact ⟨_, .inl rfl, h2⟩
    · exact ⟨_, .inr rfl, h2⟩
  · rintro ⟨p, hp, q, hq, hne, d, hd, h⟩
    obtain ⟨x, hx, rfl⟩ := mem_P hp
    obtain ⟨y, hy, rfl⟩ := mem_P hq
    by_cases hxy : y < x
    · refine ⟨x, hx, y, hxy, (fcB_iff hl hi hj).2 ⟨hne, ?_⟩⟩
      rcases hd with rfl | rfl
      · exact .inl h
      · exact .inr h
    · have hlt : x < y := by
        rcases Nat.lt_or_eq_of_le (Nat.not_lt.1 hxy) with h | h
        · exact h
        · subst h; exact absurd rfl hne
      refine ⟨y, hy, x, hlt, (fcB_iff hl hi hj).2 ⟨fun e => hne e.symm, ?_⟩⟩
      have e0 : P (nrm (P l y) (P l x)) 0 = ((sub (P l y) (P l x)).2, -(sub (P l y) (P l x)).1) := by
        show (-(sub (P l x) (P l y)).2, (sub (P l x) (P l y)).1) = _
        simp only [sub]; exact Prod.ext (by simp only; omega) (by simp only; omega)
      have e1 : P (nrm (P l y) (P l x)) 1 = (-(sub (P l y) (P l x)).2, (sub (P l y) (P l x)).1) := by
        show ((sub (P l x) (P l y)).2, -(sub (P l x) (P l y)).1) = _
        simp only [sub]; exact Prod.ext (by simp only; omega) (by simp only; omega)
      rw [e0, e1]
      rcases hd with rfl | rfl
      · exact .inr h
      · exact .inl h
theorem oppB_Opp {v : List Pt} (hv : 0 < v.length) {a b : Pt} (ha : a ∈ v) (hb : b ∈ v) : oppB v a b = true ↔ ∃ e, (e = a ∨ e = b) ∧ ∃ p ∈ v, p ≠ e ∧ ∃ d, (d = (-(sub p e).2, (sub p e).1) ∨ d = ((sub p e).2, -(sub p e).1)) ∧ Opp v a b d := by
  have core : ∀ d, (topN v d v.length = dot a d ∧ topN v (neg d) v.length = - dot b d) ↔ Opp v a b d := fun d => by
    rw [← dot_neg, top_iff hv _ ha, top_iff hv _ hb]
    refine and_congr Iff.rfl ?_
    constructor <;> intro h q hq <;> have := h q hq <;> simp only [dot_neg] at * <;> omega
  rw [oppB_iff]
  simp only [opC, decide_eq_true_eq, core]
  constructor
  · rintro ⟨e, he, x, hx, k, hk, h1, h2⟩
    refine ⟨P [a, b] e, ?_, P v x, P_mem hx, h1, P (nrm (P [a, b] e) (P v x)) k, ?_, h2⟩
    · have : e = 0 ∨ e = 1 := by omega
      rcases this with rfl | rfl
      · exact .inl rfl
      · exact .inr rfl
    · have : k = 0 ∨ k = 1 := by omega
      rcases this with rfl | rfl
      · exact .inl rfl
      · exact .inr rfl
  · rintro ⟨e, he, p, hp, hne, d, hd, h⟩
    obtain ⟨x, hx, rfl⟩ := mem_P hp
    have fin : ∀ n, n < 2 → e = P [a, b] n → ∃ e, e < 2 ∧ ∃ x, x < v.length ∧ ∃ k, k < 2 ∧ P v x ≠ P [a, b] e ∧ Opp v a b (P (nrm (P [a, b] e) (P v x)) k) := fun n hn en => by
      subst en
      rcases hd with rfl | rfl
      · exact ⟨n, hn, x, hx, 0, by omega, hne, h⟩
      · exact ⟨n, hn, x, hx, 1, by omega, hne, h⟩
    rcases he with rfl | rfl
    · exact fin 0 (by omega) rfl
    · exact fin 1 (by omega) rfl
theorem opL_fac {l : List Pt} {i j : Nat} (hi : i ∈ hullI l) (hj : j ∈ hullI l) (hij : i ≠ j) : opL l i j = facB l i j := by
  have hil := hull_mem i hi
  have hjl := hull_mem j hj
  have hl : 0 < l.length := by omega
  have V := hullV l hl
  have mV : ∀ q, q ∈ (vS l).map (P l) ↔ isV l (hullI l) q := fun q => by
    rw [List.mem_map]
    constructor
    · rintro ⟨x, hx, rfl⟩
      obtain ⟨m, hm, e⟩ := mem_getD ((insort_mem (lt := ltN) _ _).1 hx)
      exact ⟨m, hm, by rw [vx_lt hm, e]⟩
    · rintro ⟨m, hm, rfl⟩
      exact ⟨(hullI l).getD m 0, (insort_mem (lt := ltN) _ _).2 (getD_mem hm), (vx_lt hm).symm⟩
  have ha : P l i ∈ (vS l).map (P l) := List.mem_map.2 ⟨i, (insort_mem (lt := ltN) _ _).2 hi, rfl⟩
  have hb : P l j ∈ (vS l).map (P l) := List.mem_map.2 ⟨j, (insort_mem (lt := ltN) _ _).2 hj, rfl⟩
  have hv : 0 < ((vS l).map (P l)).length := List.length_pos_of_mem ha
  have hab : P l i ≠ P l j := fun e => hij (by
    obtain ⟨m, hm, e1⟩ := mem_getD hi
    obtain ⟨k, hk, e2⟩ := mem_getD hj
    have := V.inj hm hk (by rw [e1, e2, e])
    rw [← e1, ← e2, this])
  have up : ∀ d, Opp ((vS l).map (P l)) (P l i) (P l j) d ↔ Opp l (P l i) (P l j) d := fun d => by
    constructor
    · rintro ⟨h1, h2⟩
      refine ⟨hull_top hl d _ fun q hq => h1 q ((mV q).2 hq), fun q hq => ?_⟩
      have := hull_top hl (neg d) (dot (P l j) (neg d)) (fun q hq => by have := h2 q ((mV q).2 hq); simp only [dot_neg]; omega) q hq
      simp only [dot_neg] at this; omega
    · rintro ⟨h1, h2⟩
      exact ⟨fun q hq => h1 q (isV_mem V ((mV q).1 hq)), fun q hq => h2 q (isV_mem V ((mV q).1 hq))⟩
  rw [Bool.eq_iff_iff, facB_iff hl hil hjl]
  unfold opL
  rw [oppB_Opp hv ha hb]
  constructor
  · rintro ⟨e, he, p, hp, hne, d, hd, h⟩
    refine ⟨e, ?_, p, isV_mem V ((mV p).1 hp), fun h => hne h.symm, d, hd, (up d).1 h⟩
    rcases he with rfl | rfl
    · exact P_mem hil
    · exact P_mem hjl
  · rintro ⟨p, hp, q, hq, hne, d, hd, h⟩
    have hd0 : d ≠ (0, 0) := fun e => hne (by
      rcases hd with rfl | rfl <;> simp only [sub, Prod.mk.injEq] at e <;> exact Prod.ext (by omega) (by omega))
    exact opp_turn ha hb hab hd0 ((up d).2 h)
theorem antH_eq (l : List Pt) : antH l = antR l := by
  unfold antH antR
  split
  · rfl
  · congr 1
    rw [qI_prs, prI_prs, show okB l = fun a b => vertexB l a && (vertexB l b && facB l a b) from rfl, prs_filter, ← vS_eq]
    refine prs_congr ?_
    have hs : (vS l).Pairwise (fun a b => a < b) := by rw [vS_eq]; exact List.pairwise_lt_range.filter _
    have hmem : ∀ x ∈ vS l, x ∈ hullI l := fun x hx => (insort_mem (lt := ltN) _ _).1 hx
    exact (hs.imp_of_mem fun {a b} ha hb h => opL_fac (hmem a ha) (hmem b hb) (by omega))
theorem law4 (l : List Pt) : CallsF Try.prog 4 [pts l] [] (.bool true) [] := by
  obtain ⟨x, kx, fx⟩ := c11' l
  by_cases hx : x = true
  · subst hx
    obtain ⟨ln, h8⟩ := few_chk (fx rfl)
    have k20 := c20 l (by omega) h8
    have k21 := c21 l (by omega) h8
    rw [antH_eq] at k20
    have hlen : (antR l).1.length < 4611686018427387904 := by
      unfold antR
      split
      · simp
      · rename_i h
        have := prI_lenn (okB l) l.length l.length (h8 (by simpa using h)) (h8 (by simpa using h))
        simp only; omega
    obtain ⟨⟨v, e⟩, hv⟩ : ∃ v, v = antR l := ⟨_, rfl⟩
    rw [← hv] at k20 k21 hlen
    simp only at k20 k21 hlen
    have k22 := c22 v v hlen
    rw [decide_eq_true rfl] at k22
    refine callsF_cwx hm hf4 (by simp [cf4]) ?_
    simp only [cf4, argsAl]
    repeat' first
      | (refine hK _ _ _ (by first | exact fun h => Bool.noConfusion h | exact fun _ => rfl) ?_; clear hK K)
      | (refine CWx.r fun K hK => ?_; simp (maxSteps := 4000000) (disch := omega) only [dr0, dr1, dr2, dr3, dr4, if_true, if_false, Option.some.injEq, Nat.reduceEqDiff, Int.reduceToNat, Nat.reduceSub, Nat.reduceAdd, Nat.reduceMul, Nat.reduceLT, Nat.reduceLeDiff, reduceCtorEq, ↓reduceIte, catT, enc0, enc1, if_pos, if_neg, AV.ren, renL, ren_row_pt])
      | refine CWx.go ?_
      | (apply RCx.view (fid := 11) (caps := []) rfl rfl; (focus ((simp only [evsA, evA_t, evA_c, Am.get, Nat.reduceEqDiff, ↓reduceIte, List.nil_append, List.cons_append, List.append_nil]; repeat' first | exact viewArgs_nil | apply viewArgs_cons | exact viewG_flat (flat_pts _ _) _ | exact viewG_flat (flat_ixV _ _) _ | exact viewG_flat (flat_sv _ _) _ | exact viewG_ixT rfl (by assumption) (by omega) | exact viewG_ptsL rfl (by first | omega | (simp; done) | (simp; omega)) | exact viewG_ix rfl (by first | omega | (simp; omega)) | exact viewG_flat rfl _; done))); (focus (refine kx <;> first | omega | assumption)); (focus rfl); simp (maxSteps := 4000000) (disch := omega) only [dr0, dr1, dr2, dr3, dr4, if_true, if_false, Option.some.injEq, Nat.reduceEqDiff, Int.reduceToNat, Nat.reduceSub, Nat.reduceAdd, Nat.reduceMul, Nat.reduceLT, Nat.reduceLeDiff, reduceCtorEq, ↓reduceIte, catT, enc0, enc1, if_pos, if_neg, AV.ren, renL, ren_row_pt])
      | (apply RCx.view (fid := 12) (caps := []) rfl rfl; (focus ((simp only [evsA, evA_t, evA_c, Am.get, Nat.reduceEqDiff, ↓reduceIte, List.nil_append, List.cons_append, List.append_nil]; repeat' first | exact viewArgs_nil | apply viewArgs_cons | exact viewG_flat (flat_pts _ _) _ | exact viewG_flat (flat_ixV _ _) _ | exact viewG_flat (flat_sv _ _) _ | exact viewG_ixT rfl (by assumption) (by omega) | exact viewG_ptsL rfl (by first | omega | (simp; done) | (simp; omega)) | exact viewG_ix rfl (by first | omega | (simp; omega)) | exact viewG_flat rfl _; done))); (focus (refine Aw.x_awake <;> first | omega | assumption)); (focus rfl); simp (maxSteps := 4000000) (disch := omega) only [dr0, dr1, dr2, dr3, dr4, if_true, if_false, Option.some.injEq, Nat.reduceEqDiff, Int.reduceToNat, Nat.reduceSub, Nat.reduceAdd, Nat.reduceMul, Nat.reduceLT, Nat.reduceLeDiff, reduceCtorEq, ↓reduceIte, catT, enc0, enc1, if_pos, if_neg, AV.ren, renL, ren_row_pt])
      | (refine RCx.viewR (fid := 20) (caps := []) rfl rfl (viewArgs_flat1 (flat_pts l 2)) k20 (by simp only [AV.clean, cleanL, clean_ptr, Bool.and_self]) ?_; simp (maxSteps := 4000000) (disch := omega) only [dr0, dr1, dr2, dr3, dr4, if_true, if_false, Option.some.injEq, Nat.reduceEqDiff, Int.reduceToNat, Nat.reduceSub, Nat.reduceAdd, Nat.reduceMul, Nat.reduceLT, Nat.reduceLeDiff, reduceCtorEq, ↓reduceIte, catT, enc0, enc1, if_pos, if_neg, AV.ren, renL, ren_row_pt])
      | (refine RCx.viewR (fid := 21) (caps := []) rfl rfl (viewArgs_flat1 (flat_pts l 2)) k21 (by simp only [AV.clean, cleanL, clean_ptr, Bool.and_self]) ?_; simp (maxSteps := 4000000) (disch := omega) only [dr0, dr1, dr2, dr3, dr4, if_true, if_false, Option.some.injEq, Nat.reduceEqDiff, Int.reduceToNat, Nat.reduceSub, Nat.reduceAdd, Nat.reduceMul, Nat.reduceLT, Nat.reduceLeDiff, reduceCtorEq, ↓reduceIte, catT, enc0, enc1, if_pos, if_neg, AV.ren, renL, ren_row_pt])
      | (apply RCx.view (fid := 22) (caps := []) rfl rfl; (focus ((simp only [evsA, evA_t, evA_c, Am.get, Nat.reduceEqDiff, ↓reduceIte, List.nil_append, List.cons_append, List.append_nil]; repeat' first | exact viewArgs_nil | apply viewArgs_cons | exact viewG_flat (flat_pts _ _) _ | exact viewG_flat (flat_ixV _ _) _ | exact viewG_flat (flat_sv _ _) _ | exact viewG_ixT rfl (by assumption) (by omega) | exact viewG_ptsL rfl (by first | omega | (simp; done) | (simp; omega)) | exact viewG_ix rfl (by first | omega | (simp; omega)) | exact viewG_flat rfl _; done))); (focus (refine k22 <;> first | omega | assumption)); (focus rfl); simp (maxSteps := 4000000) (disch := omega) only [dr0, dr1, dr2, dr3, dr4, if_true, if_false, Option.some.injEq, Nat.reduceEqDiff, Int.reduceToNat, Nat.reduceSub, Nat.reduceAdd, Nat.reduceMul, Nat.reduceLT, Nat.reduceLeDiff, reduceCtorEq, ↓reduceIte, catT, enc0, enc1, if_pos, if_neg, AV.ren, renL, ren_row_pt])
      | (refine gX_split (fun hb => ?_) (fun hb => ?_) <;> (try simp only [hb]) <;> (try simp only [bset0, reduceCtorEq] at hb) <;> simp (maxSteps := 4000000) (disch := omega) only [dr0, dr1, dr2, dr3, dr4, if_true, if_false, Option.some.injEq, Nat.reduceEqDiff, Int.reduceToNat, Nat.reduceSub, Nat.reduceAdd, Nat.reduceMul, Nat.reduceLT, Nat.reduceLeDiff, reduceCtorEq, ↓reduceIte, catT, enc0, enc1, if_pos, if_neg, AV.ren, renL, ren_row_pt])
      | (refine CWx.br rfl (fun hb => ?_) (fun hb => ?_) <;> first | exact Bool.noConfusion hb | (first | (simp only [bset0, reduceCtorEq] at hb; done) | ((try simp only [bset0, reduceCtorEq] at hb); first | contradiction | skip)))
      | (refine CWx.e fun K hK => ?_; simp (maxSteps := 4000000) (disch := omega) only [dr0, dr1, dr2, dr3, dr4, if_true, if_false, Option.some.injEq, Nat.reduceEqDiff, Int.reduceToNat, Nat.reduceSub, Nat.reduceAdd, Nat.reduceMul, Nat.reduceLT, Nat.reduceLeDiff, reduceCtorEq, ↓reduceIte, catT, enc0, enc1, if_pos, if_neg, AV.ren, renL, ren_row_pt])
      | refine CWx.seq ?_
      | refine CWx.skip ?_
      | refine CWx.exit ?_
      | (refine CWx.ret fun al hal => finK_ext hal (finK_pure (.inr rfl) (by simp only [resRV, Am.get, Nat.reduceEqDiff, ↓reduceIte]; exact rfl) ?_ ?_); (focus (first | (rfl; done) | ((simp only [tupAV]; congr <;> omega); done) | (simp [tupAV, *]; done))); (focus (first | rfl | (simp [AV.allR, allRL, allRL_ix]; done))))
  · have hx' : x = false := by simpa using hx
    subst hx'
    refine callsF_cwx hm hf4 (by simp [cf4]) ?_
    simp only [cf4, argsAl]
    repeat' first
      | (refine hK _ _ _ (by first | exact fun h => Bool.noConfusion h | exact fun _ => rfl) ?_; clear hK K)
      | (refine CWx.r fun K hK => ?_; simp (maxSteps := 4000000) (disch := omega) only [dr0, dr1, dr2, dr3, dr4, if_true, if_false, Option.some.injEq, Nat.reduceEqDiff, Int.reduceToNat, Nat.reduceSub, Nat.reduceAdd, Nat.reduceMul, Nat.reduceLT, Nat.reduceLeDiff, reduceCtorEq, ↓reduceIte, catT, enc0, enc1, if_pos, if_neg])
      | refine CWx.go ?_
      | (apply RCx.view (fid := 11) (caps := []) rfl rfl; (focus ((simp only [evsA, evA_t, evA_c, Am.get, Nat.reduceEqDiff, ↓reduceIte, List.nil_append, List.cons_append, List.append_nil]; repeat' first | exact viewArgs_nil | apply viewArgs_cons | exact viewG_flat (flat_pts _ _) _ | exact viewG_flat (flat_ixV _ _) _ | exact viewG_flat (flat_sv _ _) _ | exact viewG_ixT rfl (by assumption) (by omega) | exact viewG_ptsL rfl (by first | omega | (simp; done) | (simp; omega)) | exact viewG_ix rfl (by first | omega | (simp; omega)) | exact viewG_flat rfl _; done))); (focus (refine kx <;> first | omega | assumption)); (focus rfl); simp (maxSteps := 4000000) (disch := omega) only [dr0, dr1, dr2, dr3, dr4, if_true, if_false, Option.some.injEq, Nat.reduceEqDiff, Int.reduceToNat, Nat.reduceSub, Nat.reduceAdd, Nat.reduceMul, Nat.reduceLT, Nat.reduceLeDiff, reduceCtorEq, ↓reduceIte, catT, enc0, enc1, if_pos, if_neg])
      | (apply RCx.view (fid := 12) (caps := []) rfl rfl; (focus ((simp only [evsA, evA_t, evA_c, Am.get, Nat.reduceEqDiff, ↓reduceIte, List.nil_append, List.cons_append, List.append_nil]; repeat' first | exact viewArgs_nil | apply viewArgs_cons | exact viewG_flat (flat_pts _ _) _ | exact viewG_flat (flat_ixV _ _) _ | exact viewG_flat (flat_sv _ _) _ | exact viewG_ixT rfl (by assumption) (by omega) | exact viewG_ptsL rfl (by first | omega | (simp; done) | (simp; omega)) | exact viewG_ix rfl (by first | omega | (simp; omega)) | exact viewG_flat rfl _; done))); (focus (refine Aw.x_awake <;> first | omega | assumption)); (focus rfl); simp (maxSteps := 4000000) (disch := omega) only [dr0, dr1, dr2, dr3, dr4, if_true, if_false, Option.some.injEq, Nat.reduceEqDiff, Int.reduceToNat, Nat.reduceSub, Nat.reduceAdd, Nat.reduceMul, Nat.reduceLT, Nat.reduceLeDiff, reduceCtorEq, ↓reduceIte, catT, enc0, enc1, if_pos, if_neg])
      | (refine gX_split (fun hb => ?_) (fun hb => ?_) <;> (try simp only [hb]) <;> (try simp only [bset0, reduceCtorEq] at hb) <;> simp (maxSteps := 4000000) (disch := omega) only [dr0, dr1, dr2, dr3, dr4, if_true, if_false, Option.some.injEq, Nat.reduceEqDiff, Int.reduceToNat, Nat.reduceSub, Nat.reduceAdd, Nat.reduceMul, Nat.reduceLT, Nat.reduceLeDiff, reduceCtorEq, ↓reduceIte, catT, enc0, enc1, if_pos, if_neg])
      | (refine CWx.br rfl (fun hb => ?_) (fun hb => ?_) <;> first | exact Bool.noConfusion hb | (first | (simp only [bset0, reduceCtorEq] at hb; done) | ((try simp only [bset0, reduceCtorEq] at hb); first | contradiction | skip)))
      | (refine CWx.e fun K hK => ?_; simp (maxSteps := 4000000) (disch := omega) only [dr0, dr1, dr2, dr3, dr4, if_true, if_false, Option.some.injEq, Nat.reduceEqDiff, Int.reduceToNat, Nat.reduceSub, Nat.reduceAdd, Nat.reduceMul, Nat.reduceLT, Nat.reduceLeDiff, reduceCtorEq, ↓reduceIte, catT, enc0, enc1, if_pos, if_neg])
      | refine CWx.seq ?_
      | refine CWx.skip ?_
      | refine CWx.exit ?_
      | (refine CWx.ret fun al hal => finK_ext hal (finK_pure (.inr rfl) (by simp only [resRV, Am.get, Nat.reduceEqDiff, ↓reduceIte]; exact rfl) ?_ ?_); (focus (first | (rfl; done) | ((simp only [tupAV]; congr <;> omega); done) | (simp [tupAV, *]; done))); (focus (first | rfl | (simp [AV.allR, allRL, allRL_ix]; done))))
end Go.Hull
