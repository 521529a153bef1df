/- The hull of points: laws.
   Conditions: none. -/
import Derived.Test.YtkbpkbjfphdgeaaPart11
section
set_option linter.unusedVariables false
namespace Go.Hull

theorem lessB_eq (l : List Pt) (a b : Nat) : lessB l a b = before (P l a) (P l b) := by
  have : ∀ x y : Bool, (x = true ↔ y = true) → x = y := by decide
  apply this
  unfold lessB P
  generalize l.getD a (0, 0) = p
  generalize l.getD b (0, 0) = q
  simp only [before, Bool.or_eq_true, Bool.and_eq_true, decide_eq_true_eq, beq_iff_eq, cmpP, cmpI]
  by_cases h1 : p.1 < q.1
  · simp [h1]
  · by_cases h2 : q.1 < p.1
    · simp [h1, h2]; omega
    · have e : p.1 = q.1 := by omega
      by_cases h3 : p.2 < q.2
      · simp [e, h3]
      · by_cases h4 : q.2 < p.2
        · simp [e, h3, h4]
        · simp [e, h3, h4]
theorem sameB_iff (l : List Pt) (a b : Nat) : sameB l a b = true ↔ P l a = P l b := by
  unfold sameB eqP P
  generalize l.getD a (0, 0) = p
  generalize l.getD b (0, 0) = q
  simp only [Bool.and_true, Bool.and_eq_true, beq_iff_eq]
  exact ⟨fun h => Prod.ext h.1 h.2, fun h => by rw [h]; exact ⟨rfl, rfl⟩⟩
theorem before_false {p q : Pt} (h : before p q = false) : q = p ∨ before q p = true := by
  rcases before_total q p with h1 | h1 | h1
  · exact .inl h1
  · exact .inr h1
  · rw [h] at h1; cases h1
theorem squash_spec (l : List Pt) : ∀ (r : List Nat) (a : Nat), (a :: r).Pairwise (fun x y => before (P l y) (P l x) = false) →
    ((a :: squash (sameB l) a r).Pairwise (fun x y => before (P l x) (P l y) = true)) ∧ (∀ x ∈ a :: r, ∃ y ∈ a :: squash (sameB l) a r, P l y = P l x) ∧ (∀ y ∈ squash (sameB l) a r, y ∈ r) := by
  intro r
  induction r with
  | nil => intro a _; exact ⟨by simp [squash], fun x hx => ⟨x, by simpa [squash] using hx, rfl⟩, fun y hy => by simp [squash] at hy⟩
  | cons b r ih =>
    intro a h
    obtain ⟨h1, h2⟩ := List.pairwise_cons.1 h
    obtain ⟨i1, i2, i3⟩ := ih b h2
    simp only [squash]
    split
    · rename_i he
      have he' : P l b = P l a := (sameB_iff l b a).1 he
      refine ⟨?_, fun x hx => ?_, fun y hy => List.mem_cons_of_mem _ (i3 y hy)⟩
      · obtain ⟨j1, j2⟩ := List.pairwise_cons.1 i1
        exact List.pairwise_cons.2 ⟨fun y hy => by rw [← he']; exact j1 y hy, j2⟩
      · rcases List.mem_cons.1 hx with rfl | hx
        · exact ⟨x, by simp, rfl⟩
        · obtain ⟨y, hy, e⟩ := i2 x hx
          rcases List.mem_cons.1 hy with rfl | hy
          · exact ⟨a, by simp, by rw [← he', e]⟩
          · exact ⟨y, by simp [hy], e⟩
    · rename_i he
      have he' : ¬ P l b = P l a := fun e => he ((sameB_iff l b a).2 e)
      have hab : before (P l a) (P l b) = true := by
        rcases before_false (h1 b (by simp)) with e | e
        · exact absurd e.symm he'
        · exact e
      refine ⟨List.pairwise_cons.2 ⟨fun y hy => ?_, i1⟩, fun x hx => ?_, fun y hy => ?_⟩
      · rcases List.mem_cons.1 hy with rfl | hy
        · exact hab
        · exact before_trans hab ((List.pairwise_cons.1 i1).1 y hy)
      · rcases List.mem_cons.1 hx with rfl | hx
        · exact ⟨x, by simp, rfl⟩
        · obtain ⟨y, hy, e⟩ := i2 x hx
          exact ⟨y, List.mem_cons_of_mem _ hy, e⟩
      · rcases List.mem_cons.1 hy with rfl | hy
        · simp
        · exact List.mem_cons_of_mem _ (i3 y hy)
structure Dist (l : List Pt) (d : List Nat) : Prop where
  inc : (d.map (P l)).Pairwise (fun p q => before p q = true)
  cover : ∀ p ∈ l, p ∈ d.map (P l)
  mem : ∀ i ∈ d, i < l.length
theorem orderI_sorted (l : List Pt) : (orderI l).Pairwise (fun x y => before (P l y) (P l x) = false) := by
  have := insort_sorted (lessB l) (fun a b h => by rw [lessB_eq] at *; exact before_asymm h) (fun a b c h1 h2 => by
    rw [lessB_eq] at *
    cases h : before (P l a) (P l c) with
    | false => rfl
    | true =>
      rcases before_false h1 with e | e
      · rw [← e, h2] at h; cases h
      · have := before_trans e h; rw [h2] at this; cases this) (List.range l.length)
  unfold orderI
  exact this.imp fun {a b} h => by rw [← lessB_eq]; exact h
theorem dist (l : List Pt) : Dist l (distI l) := by
  have hs := orderI_sorted l
  have hm : ∀ i, i ∈ orderI l ↔ i < l.length := fun i => by unfold orderI; rw [insort_mem, List.mem_range]
  have key : ∀ p ∈ l, ∃ i, i ∈ orderI l ∧ P l i = p := fun p hp => by
    obtain ⟨i, hi, e⟩ := List.getElem_of_mem hp
    exact ⟨i, (hm i).2 hi, by unfold P; rw [List.getD_eq_getElem?_getD, List.getElem?_eq_getElem hi, e]; rfl⟩
  unfold distI compI
  cases ho : orderI l with
  | nil =>
    rw [ho] at hm key
    refine ⟨by simp [compact], fun p hp => ?_, fun i hi => by simp [compact] at hi⟩
    obtain ⟨i, hi, -⟩ := key p hp
    simp at hi
  | cons a r =>
    rw [ho] at hs hm key
    rw [compact_take]
    obtain ⟨i1, i2, i3⟩ := squash_spec l r a hs
    refine ⟨List.pairwise_map.2 i1, fun p hp => ?_, fun i hi => (hm i).1 ?_⟩
    · obtain ⟨i, hi, e⟩ := key p hp
      obtain ⟨y, hy, e2⟩ := i2 i hi
      exact List.mem_map.2 ⟨y, hy, by rw [e2, e]⟩
    · rcases List.mem_cons.1 hi with rfl | hi
      · simp
      · exact List.mem_cons_of_mem _ (i3 i hi)
theorem pop_map (l : List Pt) (i : Nat) : ∀ (st : List Nat), (pop l i st).map (P l) = popP (P l i) (st.map (P l)) := by
  intro st
  induction st with
  | nil => rfl
  | cons b st ih =>
    cases st with
    | nil => rfl
    | cons a r =>
      simp only [pop, List.map_cons, popP]
      simp only [List.map_cons] at ih
      by_cases h : left (l.getD a (0, 0)) (l.getD b (0, 0)) (l.getD i (0, 0)) ≤ 0
      · rw [if_pos h, if_pos (show left (P l a) (P l b) (P l i) ≤ 0 from h), ih]
      · rw [if_neg h, if_neg (show ¬ left (P l a) (P l b) (P l i) ≤ 0 from h)]
        rfl
theorem chain_map (l : List Pt) (ord : List Nat) : (chainS l ord).map (P l) = chainP (ord.map (P l)) := by
  have : ∀ (ord st : List Nat), (ord.foldl (fun st i => i :: pop l i st) st).map (P l) = (ord.map (P l)).foldl (fun st p => p :: popP p st) (st.map (P l)) := by
    intro ord
    induction ord with
    | nil => intro st; rfl
    | cons o ord ih => intro st; simp only [List.foldl_cons, List.map_cons]; rw [ih, List.map_cons, pop_map]
  exact this ord []
theorem popP_neg (p : Pt) : ∀ (st : List Pt), (popP p st).map neg = popP (neg p) (st.map neg) := by
  intro st
  induction st with
  | nil => rfl
  | cons b st ih =>
    cases st with
    | nil => rfl
    | cons a r =>
      simp only [popP, List.map_cons, left_neg]
      simp only [List.map_cons] at ih
      split
      · rw [ih]
      · rfl
theorem chainP_neg (ps : List Pt) : (chainP ps).map neg = chainP (ps.map neg) := by
  have : ∀ (ps st : List Pt), (ps.foldl (fun st p => p :: popP p st) st).map neg = (ps.map neg).foldl (fun st p => p :: popP p st) (st.map neg) := by
    intro ps
    induction ps with
    | nil => intro st; rfl
    | cons o ps ih => intro st; simp only [List.foldl_cons, List.map_cons]; rw [ih, List.map_cons, popP_neg]
  exact this ps []
theorem revI_eq {l : List Pt} (hl : 0 < l.length) : revI l = (distI l).reverse := by
  obtain ⟨a1, a2, a3, a4⟩ := compI_spec hl
  unfold revI distI
  exact rv_take (by omega)
end Go.Hull
end
section
set_option linter.unusedVariables false
namespace Go.Hull

theorem chainS_mem {l : List Pt} {n : Nat} : ∀ (ord st : List Nat), (∀ x ∈ ord, x < n) → (∀ x ∈ st, x < n) → ∀ x ∈ ord.foldl (fun st i => i :: pop l i st) st, x < n := by
  intro ord
  induction ord with
  | nil => intro st _ h; exact h
  | cons o ord ih =>
    intro st h1 h2
    refine ih _ (fun x hx => h1 x (by simp [hx])) fun x hx => ?_
    rcases List.mem_cons.1 hx with rfl | hx
    · exact h1 _ (by simp)
    · exact pop_mem st h2 x hx
theorem getD_map_P (l : List Pt) (s : List Nat) {i : Nat} (hi : i < s.length) : (s.map (P l)).getD i (0, 0) = P l (s.getD i 0) := by
  simp [List.getD_eq_getElem?_getD, List.getElem?_eq_getElem hi]
theorem getD_rev (s : List Nat) {i : Nat} (hi : i < s.length) : s.reverse.getD i 0 = s.getD (s.length - 1 - i) 0 := by
  rw [List.getD_eq_getElem?_getD, List.getElem?_reverse hi, List.getD_eq_getElem?_getD]
theorem getD_map_neg (s : List Pt) (i : Nat) : (s.map neg).getD i (0, 0) = neg (s.getD i (0, 0)) := by
  simp only [List.getD_eq_getElem?_getD, List.getElem?_map]
  cases s[i]? <;> rfl
theorem Ch.congr {D D' : Pt → Prop} {A A' : Nat → Pt} {x x' : Nat} (h : Ch D A x) (hD : ∀ q, D' q ↔ D q) (hA : ∀ i, A' i = A i) (hx : x' = x) : Ch D' A' x' := by
  have e1 : D' = D := funext fun q => propext (hD q)
  have e2 : A' = A := funext hA
  rw [e1, e2, hx]; exact h
theorem Ch.pos {D : Pt → Prop} {A : Nat → Pt} {x : Nat} (h : Ch D A x) {p q : Pt} (hp : D p) (hq : D q) (hpq : before p q = true) : 0 < x := by
  cases x with
  | succ x => omega
  | zero =>
    have e : ∀ q, D q → q = A 0 := fun q hq => by
      rcases h.first q hq with e | e
      · exact e
      · rcases h.last q hq with e' | e'
        · exact e'
        · rw [before_asymm e] at e'; cases e'
    rw [e p hp, e q hq, before_irrefl] at hpq
    cases hpq
theorem two_of (ps : List Pt) (hne : ps ≠ []) (hp : ps.Pairwise (fun p q => before p q = true)) {p q : Pt} (h1 : p ∈ ps) (h2 : q ∈ ps) (hpq : before p q = true) :
    Two (· ∈ ps) (fun i => (chainP ps).getD ((chainP ps).length - 1 - i) (0, 0)) (fun i => (chainP ps.reverse).getD ((chainP ps.reverse).length - 1 - i) (0, 0)) ((chainP ps).length - 1) ((chainP ps.reverse).length - 1) := by
  have lo := (ready_chain hne hp).ch
  have hp' : (ps.reverse.map neg).Pairwise (fun p q => before p q = true) := by
    rw [List.pairwise_map, List.pairwise_reverse]
    exact hp.imp fun {a b} h => by rw [before_neg]; exact h
  have hi0 := (ready_chain (ps := ps.reverse.map neg) (by simpa using hne) hp').ch
  rw [← chainP_neg] at hi0
  have hi : Ch (fun q => neg q ∈ ps) (fun i => neg ((chainP ps.reverse).getD ((chainP ps.reverse).length - 1 - i) (0, 0))) ((chainP ps.reverse).length - 1) := by
    refine hi0.congr (fun q => ?_) (fun i => ?_) (by rw [List.length_map])
    · rw [List.mem_map]
      constructor
      · exact fun h => ⟨neg q, by simpa using h, neg_neg' q⟩
      · rintro ⟨a, ha, rfl⟩
        rw [neg_neg']; simpa using ha
    · rw [getD_map_neg, List.length_map]
  exact ⟨lo, hi, lo.pos h1 h2 hpq, hi.pos (p := neg q) (q := neg p) (by rw [neg_neg']; exact h2) (by rw [neg_neg']; exact h1) (by rw [before_neg]; exact hpq)⟩
theorem hullTN (l : List Pt) (hl : 0 < l.length) : HullT l (hullI l) ∧ ((hullI l).map (P l)).Nodup := by
  obtain ⟨a1, a2, a3, a4⟩ := compI_spec hl
  obtain ⟨d1, d2, d3⟩ := dist l
  have dl := distI_length hl
  by_cases h3 : (compI l).2 < 3
  · have hh : hullI l = distI l := by unfold hullI; rw [if_pos h3]
    rw [hh]
    refine ⟨?_, List.nodup_iff_pairwise_ne.2 (d1.imp fun {a b} h e => by rw [e, before_irrefl] at h; cases h)⟩
    obtain ⟨d, hd⟩ : ∃ d, d = distI l := ⟨_, rfl⟩
    rw [← hd] at d1 d2 d3 dl ⊢
    match d, d1, d2, d3, dl with
    | [], _, _, _, dl => simp at dl; omega
    | [a], d1, d2, d3, dl =>
      have e : ∀ p ∈ l, p = P l a := fun p hp => by have := d2 p hp; simpa using this
      exact ⟨by simp, by simp; omega, d3, fun p hp => by rw [e p hp]; exact before_irrefl _, fun h => by simp at h, fun h => by simp at h, fun h => by simp at h, fun h => by simp at h, fun _ => e⟩
    | [a, b], d1, d2, d3, dl =>
      have e : ∀ p ∈ l, p = P l a ∨ p = P l b := fun p hp => by have := d2 p hp; simpa using this
      have hab : before (P l a) (P l b) = true := by simpa using d1
      refine ⟨by simp, by simp at dl ⊢; omega, d3, fun p hp => ?_, fun h => by simp at h, fun h => by simp at h, fun _ i hi p hp => ?_, fun _ p hp => ?_, fun h => by simp at h⟩
      · rcases e p hp with rfl | rfl
        · exact before_irrefl _
        · exact before_asymm hab
      · match i, hi with
        | 0, _ =>
          show left (P l a) (P l b) p = 0
          rcases e p hp with rfl | rfl
          · exact left_self1 _ _
          · exact left_self2 _ _
        | 1, _ =>
          rw [show (1 + 1) % [a, b].length = 0 from by simp]
          show left (P l b) (P l a) p = 0
          rcases e p hp with rfl | rfl
          · exact left_self2 _ _
          · exact left_self1 _ _
      · show before (P l b) p = false
        rcases e p hp with rfl | rfl
        · exact before_asymm hab
        · exact before_irrefl _
    | a :: b :: c :: r, _, _, _, dl => simp at dl; omega
  · have hh : hullI l = ((chainS l (distI l)).reverse.take ((chainS l (distI l)).length - 1)) ++ ((chainS l (distI l).reverse).reverse.take ((chainS l (distI l).reverse).length - 1)) := by
      unfold hullI; rw [if_neg h3, revI_eq hl]
    obtain ⟨ps, hps⟩ : ∃ ps, ps = (distI l).map (P l) := ⟨_, rfl⟩
    obtain ⟨S, hS⟩ : ∃ S, S = chainS l (distI l) := ⟨_, rfl⟩
    obtain ⟨W, hW⟩ : ∃ W, W = chainS l (distI l).reverse := ⟨_, rfl⟩
    have hSp : S.map (P l) = chainP ps := by rw [hS, chain_map, hps]
    have hWp : W.map (P l) = chainP ps.reverse := by rw [hW, chain_map, hps, List.map_reverse]
    have hSm : ∀ x ∈ S, x < l.length := by rw [hS]; exact chainS_mem _ _ d3 (by simp)
    have hWm : ∀ x ∈ W, x < l.length := by rw [hW]; exact chainS_mem _ _ (fun x hx => d3 x (by simpa using hx)) (by simp)
    rw [← hS, ← hW] at hh
    rw [← hps] at d1 d2
    have pl : ps.length = (compI l).2 := by rw [hps, List.length_map, dl]
    have hne : ps ≠ [] := by intro e; rw [e] at pl; simp at pl; omega
    obtain ⟨p, q, hp, hq, hpq⟩ : ∃ p q, p ∈ ps ∧ q ∈ ps ∧ before p q = true := by
      match ps, pl, d1 with
      | [], pl, _ => simp at pl; omega
      | [a], pl, _ => simp at pl; omega
      | a :: b :: r, _, d1 => exact ⟨a, b, by simp, by simp, (List.pairwise_cons.1 d1).1 b (by simp)⟩
    have T := two_of ps hne d1 hp hq hpq
    rw [← hSp, ← hWp] at T
    simp only [List.length_map] at T
    obtain ⟨A, hA⟩ : ∃ A : Nat → Pt, A = fun i => (S.map (P l)).getD (S.length - 1 - i) (0, 0) := ⟨_, rfl⟩
    obtain ⟨B, hB⟩ : ∃ B : Nat → Pt, B = fun i => (W.map (P l)).getD (W.length - 1 - i) (0, 0) := ⟨_, rfl⟩
    rw [← hA, ← hB] at T
    obtain ⟨x, hx⟩ : ∃ x, x = S.length - 1 := ⟨_, rfl⟩
    obtain ⟨y, hy⟩ : ∃ y, y = W.length - 1 := ⟨_, rfl⟩
    rw [← hx, ← hy] at T hh
    have x1 := T.x1
    have y1 := T.y1
    obtain ⟨v, hv⟩ : ∃ v, v = hullI l := ⟨_, rfl⟩
    rw [← hv] at hh ⊢
    have l1 : (S.reverse.take x).length = x := by rw [List.length_take, List.length_reverse]; omega
    have l2 : (W.reverse.take y).length = y := by rw [List.length_take, List.length_reverse]; omega
    have hvl : v.length = x + y := by rw [hh, List.length_append, l1, l2]
    have vA : ∀ i, i < x → P l (v.getD i 0) = A i := fun i hi => by
      have : v.getD i 0 = S.reverse.getD i 0 := by
        rw [hh, List.getD_eq_getElem?_getD, List.getElem?_append_left (by omega), List.getElem?_take_of_lt hi, List.getD_eq_getElem?_getD]
      rw [this, getD_rev S (by omega), hA]
      exact (getD_map_P l S (by omega)).symm
    have vB : ∀ j, j < y → P l (v.getD (x + j) 0) = B j := fun j hj => by
      have : v.getD (x + j) 0 = W.reverse.getD j 0 := by
        rw [hh, List.getD_eq_getElem?_getD, List.getElem?_append_right (by omega), l1, show x + j - x = j by omega, List.getElem?_take_of_lt hj, List.getD_eq_getElem?_getD]
      rw [this, getD_rev W (by omega), hB]
      exact (getD_map_P l W (by omega)).symm
    have vm : ∀ z ∈ v, z < l.length := fun z hz => by
      rw [hh] at hz
      rcases List.mem_append.1 hz with h | h
      · exact hSm z (List.mem_reverse.1 (List.mem_of_mem_take h))
      · exact hWm z (List.mem_reverse.1 (List.mem_of_mem_take h))
    have lows : ∀ q, q ∈ ps → before q (A 0) = false := fun q hq => by
      rcases T.lo.first q hq with e | e
      · rw [e]; exact before_irrefl _
      · exact before_asymm e
    have V0 := vA 0 x1
    have n1 : (v.map (P l)).Nodup := nodup_of_getD (d := (0, 0)) fun i k hik hk => by
      rw [List.length_map] at hk
      rw [getD_map_P l v (by omega), getD_map_P l v hk]
      exact T.apart' (V := fun i => P l (v.getD i 0)) vA vB hik (by omega)
    refine ⟨⟨by omega, ?_, vm, fun p hp => by rw [V0]; exact lows p (d2 p hp), fun h i hi p hp => ?_, fun h i hi => ?_, fun h i hi p hp => ?_, fun h p hp => ?_, fun h => by omega⟩, n1⟩
    · have n2 := length_le_of_nodup (v.map (P l)) ps n1 fun a ha => by
        obtain ⟨z, hz, rfl⟩ := List.mem_map.1 ha
        have := vm z hz
        exact d2 _ (by unfold P; rw [List.getD_eq_getElem?_getD, List.getElem?_eq_getElem this]; simp)
      rw [List.length_map, pl] at n2
      omega
    · rw [hvl] at hi ⊢
      exact T.edges (V := fun i => P l (v.getD i 0)) vA vB hi (d2 p hp)
    · rw [hvl] at hi h ⊢
      exact T.turning (V := fun i => P l (v.getD i 0)) vA vB h hi
    · rw [hvl] at h
      have e0 := T.edges (V := fun i => P l (v.getD i 0)) vA vB (i := 0) (by omega) (d2 p hp)
      have e1 := T.edges (V := fun i => P l (v.getD i 0)) vA vB (i := 1) (by omega) (d2 p hp)
      rw [h] at e0 e1
      simp only [Nat.zero_add, show 1 % 2 = 1 from rfl, show (1 + 1) % 2 = 0 from rfl] at e0 e1
      rw [left_swap] at e1
      have ee : left (P l (v.getD 0 0)) (P l (v.getD 1 0)) p = 0 := by omega
      rw [hvl, h]
      match i, hi with
      | 0, _ => exact ee
      | 1, _ =>
        show left (P l (v.getD 1 0)) (P l (v.getD 0 0)) p = 0
        rw [left_swap, ee]; rfl
    · rw [hvl] at h
      have V1 := vB 0 y1
      rw [show x + 0 = 1 by omega, ← T.join1] at V1
      rw [V1]
      rcases T.lo.last p (d2 p hp) with e | e
      · rw [e]; exact before_irrefl _
      · exact before_asymm e
theorem hullT (l : List Pt) (hl : 0 < l.length) : HullT l (hullI l) := (hullTN l hl).1
end Go.Hull
end
section
set_option linter.unusedVariables false
namespace Go.Hull

def dot (u v : Pt) : Int := u.1 * v.1 + u.2 * v.2
structure HullV (l : List Pt) (v : List Nat) : Prop where
  T : HullT l v
  nd : (v.map (P l)).Nodup
  fst : ∀ i ∈ v, ∀ k, k < i → P l k ≠ P l i
theorem P_mem {l : List Pt} {i : Nat} (h : i < l.length) : P l i ∈ l := by
  unfold P; rw [List.getD_eq_getElem?_getD, List.getElem?_eq_getElem h]; simp
theorem HullT.pmem {l : List Pt} {v : List Nat} (h : HullT l v) {i : Nat} (hi : i < v.length) : P l (v.getD i 0) ∈ l := P_mem (getD_lt h.mem hi)
theorem HullV.inj {l : List Pt} {v : List Nat} (h : HullV l v) {i k : Nat} (hi : i < v.length) (hk : k < v.length) (e : P l (v.getD i 0) = P l (v.getD k 0)) : i = k := by
  have hn := h.nd
  rw [List.nodup_iff_pairwise_ne, List.pairwise_iff_getElem] at hn
  have g : ∀ (i k : Nat) (hi : i < v.length) (hk : k < v.length), i < k → P l (v.getD i 0) ≠ P l (v.getD k 0) := fun i k hi hk hik => by
    have := hn i k (by simpa using hi) (by simpa using hk) hik
    simpa [List.getD_eq_getElem?_getD, List.getElem?_eq_getElem hi, List.getElem?_eq_getElem hk] using this
  rcases Nat.lt_trichotomy i k with h1 | h1 | h1
  · exact absurd e (g i k hi hk h1)
  · exact h1
  · exact absurd e.symm (g k i hk hi h1)
theorem dot_self_pos {u : Pt} (h : u ≠ (0, 0)) : 0 < dot u u := by
  obtain ⟨a, b⟩ := u
  simp only [dot]
  have h1 : 0 ≤ a * a := by rcases Int.le_total 0 a with h | h; exact Int.mul_nonneg h h; exact Int.mul_nonneg_of_nonpos_of_nonpos h h
  have h2 : 0 ≤ b * b := by rcases Int.le_total 0 b with h | h; exact Int.mul_nonneg h h; exact Int.mul_nonneg_of_nonpos_of_nonpos h h
  by_cases ha : a = 0
  · by_cases hb : b = 0
    · exact absurd (by rw [ha, hb]) h
    · have : b * b ≠ 0 := fun e => by rcases Int.mul_eq_zero.1 e with e | e <;> exact hb e
      omega
  · have : a * a ≠ 0 := fun e => by rcases Int.mul_eq_zero.1 e with e | e <;> exact ha e
    omega
theorem left_self1' (a c : Pt) : left a a c = 0 := by simp only [left, turn, sub]; grind
theorem sub_zero {p q : Pt} : sub p q = (0, 0) → p = q := fun h => by
  simp only [sub, Prod.mk.injEq] at h
  exact Prod.ext (by omega) (by omega)
end Go.Hull
end
section
set_option linter.unusedVariables false
namespace Go.Hull

theorem HullV.two_ne {l : List Pt} {v : List Nat} (h : HullV l v) (h2 : v.length = 2) : before (P l (v.getD 0 0)) (P l (v.getD 1 0)) = true := by
  rcases before_false (h.T.first _ (h.T.pmem (i := 1) (by omega))) with e | e
  · have := h.inj (i := 0) (k := 1) (by omega) (by omega) e; omega
  · exact e
/-- Firstness: of equal points the one that stands first is kept. -/
theorem insR_stable (l : List Pt) (x : Nat) : ∀ (r : List Nat), (∀ y ∈ r, y < x) → r.Pairwise (fun a b => P l a = P l b → b < a) → (insR (lessB l) x r).Pairwise (fun a b => P l a = P l b → b < a) := by
  intro r
  induction r with
  | nil => intro _ _; simp [insR]
  | cons y r ih =>
    intro hx h
    obtain ⟨h1, h2⟩ := List.pairwise_cons.1 h
    simp only [insR]
    split
    · rename_i hc
      refine List.pairwise_cons.2 ⟨fun z hz e => ?_, ih (fun z hz => hx z (by simp [hz])) h2⟩
      rcases (insR_mem _ x z r).1 hz with rfl | hz
      · rw [lessB_eq, e, before_irrefl] at hc; cases hc
      · exact h1 z hz e
    · exact List.pairwise_cons.2 ⟨fun z hz _ => hx z hz, h⟩
theorem fold_stable (l : List Pt) : ∀ (rest r : List Nat), (∀ y ∈ r, ∀ x ∈ rest, y < x) → rest.Pairwise (· < ·) → r.Pairwise (fun a b => P l a = P l b → b < a) → (rest.foldl (fun r x => insR (lessB l) x r) r).Pairwise (fun a b => P l a = P l b → b < a) := by
  intro rest
  induction rest with
  | nil => intro r _ _ h; exact h
  | cons x rest ih =>
    intro r h1 h2 h3
    obtain ⟨p1, p2⟩ := List.pairwise_cons.1 h2
    refine ih _ (fun y hy z hz => ?_) p2 (insR_stable l x r (fun y hy => h1 y hy x (by simp)) h3)
    rcases (insR_mem _ x y r).1 hy with rfl | hy
    · exact p1 z hz
    · exact h1 y hy z (by simp [hz])
theorem orderI_stable (l : List Pt) : (orderI l).Pairwise (fun a b => P l a = P l b → a < b) := by
  unfold orderI
  cases hr : List.range l.length with
  | nil => simp [insort, outer]
  | cons a rest =>
    rw [insort_eq, List.pairwise_reverse]
    have hp : (List.range l.length).Pairwise (· < ·) := List.pairwise_lt_range
    rw [hr] at hp
    obtain ⟨p1, p2⟩ := List.pairwise_cons.1 hp
    exact (fold_stable l rest [a] (fun y hy x hx => by rw [List.mem_singleton.1 hy]; exact p1 x hx) p2 (by simp)).imp fun {a b} h e => h e.symm
theorem squash_first (l : List Pt) : ∀ (r : List Nat) (a : Nat), (a :: r).Pairwise (fun x y => before (P l y) (P l x) = false) → (a :: r).Pairwise (fun x y => P l x = P l y → x < y) →
    ∀ y ∈ a :: squash (sameB l) a r, ∀ x ∈ a :: r, P l x = P l y → y ≤ x := by
  intro r
  induction r with
  | nil =>
    intro a _ _ y hy x hx _
    simp only [squash, List.mem_singleton] at hy hx
    omega
  | cons b r ih =>
    intro a h g y hy x hx e
    obtain ⟨h1, h2⟩ := List.pairwise_cons.1 h
    obtain ⟨g1, g2⟩ := List.pairwise_cons.1 g
    have ib := ih b h2 g2
    have ha : ∀ x ∈ a :: b :: r, P l x = P l a → a ≤ x := fun x hx e => by
      rcases List.mem_cons.1 hx with rfl | hx
      · exact Nat.le_refl _
      · exact Nat.le_of_lt (g1 x hx e.symm)
    rcases List.mem_cons.1 hy with rfl | hy
    · exact ha x hx e
    · have sp := squash_spec l (b :: r) a h
      have lt := (List.pairwise_cons.1 sp.1).1 y hy
      rcases List.mem_cons.1 hx with rfl | hx
      · rw [e, before_irrefl] at lt; cases lt
      · simp only [squash] at hy
        split at hy
        · exact ib y (List.mem_cons_of_mem _ hy) x hx e
        · exact ib y hy x hx e
theorem distI_first (l : List Pt) : ∀ y ∈ distI l, ∀ k, k < y → P l k ≠ P l y := by
  have hs := orderI_sorted l
  have ht := orderI_stable l
  have hm : ∀ i, i ∈ orderI l ↔ i < l.length := fun i => by unfold orderI; rw [insort_mem, List.mem_range]
  have hd := (dist l).mem
  unfold distI compI at hd ⊢
  cases ho : orderI l with
  | nil => intro y hy; simp [compact] at hy
  | cons a r =>
    rw [ho] at hs ht hm hd
    rw [compact_take] at hd ⊢
    intro y hy k hk e
    have := squash_first l r a hs ht y hy k ((hm k).2 (by have := hd y hy; omega)) e
    omega
theorem chainS_sub {l : List Pt} {d : Nat → Prop} : ∀ (ord st : List Nat), (∀ x ∈ ord, d x) → (∀ x ∈ st, d x) → ∀ x ∈ ord.foldl (fun st i => i :: pop l i st) st, d x := by
  intro ord
  induction ord with
  | nil => intro st _ h; exact h
  | cons o ord ih =>
    intro st h1 h2
    refine ih _ (fun x hx => h1 x (by simp [hx])) fun x hx => ?_
    rcases List.mem_cons.1 hx with rfl | hx
    · exact h1 _ (by simp)
    · have : ∀ (st : List Nat), (∀ x ∈ st, d x) → ∀ x ∈ pop l o st, d x := by
        intro st
        induction st with
        | nil => intro h; exact h
        | cons b st ih =>
          intro h
          cases st with
          | nil => exact h
          | cons a r =>
            simp only [pop]
            split
            · exact ih fun x hx => h x (List.mem_cons_of_mem _ hx)
            · exact h
      exact this st h2 x hx
theorem hullI_sub {l : List Pt} (hl : 0 < l.length) : ∀ x ∈ hullI l, x ∈ distI l := by
  intro x hx
  unfold hullI at hx
  split at hx
  · exact hx
  · rw [revI_eq hl] at hx
    rcases List.mem_append.1 hx with h | h
    · exact chainS_sub _ _ (fun x hx => hx) (by simp) x (List.mem_reverse.1 (List.mem_of_mem_take h))
    · exact chainS_sub (d := (· ∈ distI l)) _ _ (fun x hx => List.mem_reverse.1 hx) (by simp) x (List.mem_reverse.1 (List.mem_of_mem_take h))
theorem hullV (l : List Pt) (hl : 0 < l.length) : HullV l (hullI l) := by
  obtain ⟨h1, h2⟩ := hullTN l hl
  exact ⟨h1, h2, fun i hi k hk => distI_first l i (hullI_sub hl i hi) k hk⟩
/-- Moved points. -/
def addP (d p : Pt) : Pt := (p.1 + d.1, p.2 + d.2)
theorem left_add (d a b c : Pt) : left (addP d a) (addP d b) (addP d c) = left a b c := by simp only [left, turn, sub, addP]; grind
theorem before_add (d a b : Pt) : before (addP d a) (addP d b) = before a b := by
  have : ∀ x y : Bool, (x = true ↔ y = true) → x = y := by decide
  apply this
  rw [before_iff, before_iff]
  simp only [Lp, sub, addP]; omega
theorem addP_inj {d a b : Pt} (h : addP d a = addP d b) : a = b := by
  simp only [addP, Prod.mk.injEq] at h
  exact Prod.ext (by omega) (by omega)
theorem P_add (d : Pt) (l : List Pt) {i : Nat} (hi : i < l.length) : P (l.map (addP d)) i = addP d (P l i) := by
  simp [P, List.getD_eq_getElem?_getD, List.getElem?_eq_getElem hi]
theorem HullV.moved {l : List Pt} {v : List Nat} (h : HullV l v) (d : Pt) : HullV (l.map (addP d)) v := by
  have T := h.T
  have e : ∀ i, i < v.length → P (l.map (addP d)) (v.getD i 0) = addP d (P l (v.getD i 0)) := fun i hi => P_add d l (getD_lt T.mem hi)
  have md : ∀ k, k % v.length < v.length := fun k => Nat.mod_lt _ T.ne
  have pm : ∀ {Q : Pt → Prop}, (∀ p ∈ l, Q (addP d p)) → ∀ p ∈ l.map (addP d), Q p := fun {Q} hq p hp => by
    obtain ⟨a, ha, rfl⟩ := List.mem_map.1 hp
    exact hq a ha
  refine ⟨⟨T.ne, by rw [List.length_map]; exact T.le, fun x hx => by rw [List.length_map]; exact T.mem x hx, pm fun p hp => ?_, fun h2 i hi => pm fun p hp => ?_, fun h2 i hi => ?_, fun h2 i hi => pm fun p hp => ?_, fun h2 => pm fun p hp => ?_, fun h1 => pm fun p hp => ?_⟩, ?_, fun i hi k hk hh => ?_⟩
  · rw [e 0 T.ne, before_add]; exact T.first p hp
  · rw [e i hi, e _ (md _), left_add]; exact T.big h2 i hi p hp
  · rw [e i hi, e _ (md _), e _ (md _), left_add]; exact T.turns h2 i hi
  · rw [e i (by omega), e _ (md _), left_add]; exact T.two h2 i hi p hp
  · rw [e 1 (by omega), before_add]; exact T.two' h2 p hp
  · rw [e 0 (by omega), T.one h1 p hp]
  · have : v.map (P (l.map (addP d))) = (v.map (P l)).map (addP d) := by
      rw [List.map_map]
      exact List.map_congr_left fun x hx => P_add d l (T.mem x hx)
    rw [this, List.nodup_iff_pairwise_ne, List.pairwise_map]
    exact (List.nodup_iff_pairwise_ne.1 h.nd).imp fun {a b} hab hh => hab (addP_inj hh)
  · have hil := T.mem i hi
    rw [P_add d l hil, P_add d l (by omega)] at hh
    exact h.fst i hi k hk (addP_inj hh)
theorem getD_range {n i : Nat} (h : i < n) : (List.range n).getD i 0 = i := by
  rw [List.getD_eq_getElem?_getD, List.getElem?_range h]; rfl
theorem HullV.alone {l : List Pt} {v : List Nat} (h : HullV l v) : HullV (v.map (P l)) (List.range v.length) := by
  have T := h.T
  have al : (v.map (P l)).length = v.length := List.length_map ..
  have e : ∀ i, i < v.length → P (v.map (P l)) ((List.range v.length).getD i 0) = P l (v.getD i 0) := fun i hi => by
    rw [getD_range hi]; exact getD_map_P l v hi
  have md : ∀ k, k % v.length < v.length := fun k => Nat.mod_lt _ T.ne
  have pm : ∀ p ∈ v.map (P l), p ∈ l := fun p hp => by
    obtain ⟨a, ha, rfl⟩ := List.mem_map.1 hp
    exact P_mem (T.mem a ha)
  have rl : (List.range v.length).length = v.length := List.length_range
  refine ⟨⟨by rw [rl]; exact T.ne, by rw [rl, al]; exact Nat.le_refl _, fun x hx => by rw [al]; exact List.mem_range.1 hx, fun p hp => ?_, fun h2 i hi p hp => ?_, fun h2 i hi => ?_, fun h2 i hi p hp => ?_, fun h2 p hp => ?_, fun h1 p hp => ?_⟩, ?_, fun i hi k hk hh => ?_⟩
  · rw [e 0 T.ne]; exact T.first p (pm p hp)
  · rw [rl] at h2 hi ⊢; rw [e i hi, e _ (md _)]; exact T.big h2 i hi p (pm p hp)
  · rw [rl] at h2 hi ⊢; rw [e i hi, e _ (md _), e _ (md _)]; exact T.turns h2 i hi
  · rw [rl] at h2 ⊢; rw [e i (by omega), e _ (md _)]; exact T.two h2 i hi p (pm p hp)
  · rw [rl] at h2; rw [e 1 (by omega)]; exact T.two' h2 p (pm p hp)
  · rw [rl] at h1; rw [e 0 (by omega)]; exact T.one h1 p (pm p hp)
  · have : (List.range v.length).map (P (v.map (P l))) = v.map (P l) := by
      refine List.ext_getElem (by simp) fun i h1 h2 => ?_
      have hi : i < v.length := by simpa using h2
      have := getD_map_P l v hi
      simp only [List.getElem_map, List.getElem_range]
      have gv : v.getD i 0 = v[i] := by rw [List.getD_eq_getElem?_getD, List.getElem?_eq_getElem hi]; rfl
      rw [gv] at this
      exact this
    rw [this]; exact h.nd
  · have hi' := List.mem_range.1 hi
    have e1 := e i hi'
    have e2 := e k (by omega)
    rw [getD_range hi'] at e1
    rw [getD_range (by omega)] at e2
    rw [e1, e2] at hh
    have := h.inj (i := k) (k := i) (by omega) hi' hh
    omega
end Go.Hull
end
section
set_option linter.unusedSimpArgs false
set_option linter.unusedVariables false
set_option maxHeartbeats 2000000
namespace Go.Hull
open Go Go.Am Go.Proofs

theorem viewG_pts {hl : List Blk} {b g i k : Nat} {nil frz : Bool} {xs : List Pt} (hb : hget hl b = .row nil g frz 2 (xs.map pt)) (h : i + k ≤ xs.length) : viewG hl 6 (.sl b g i k) = some (pts ((xs.drop i).take k), [b]) := by
  have he : ((xs.map pt).drop i).take k = ((xs.drop i).take k).map pt := by rw [List.map_take, List.map_drop]
  have h1 : optL (viewG hl 5) (((xs.drop i).take k).map pt) = some ((((xs.drop i).take k).map pt).map fun x => (x, [])) := optL_self _ fun x hx => by
    obtain ⟨n, -, rfl⟩ := List.mem_map.1 hx
    exact viewG_flat rfl 4
  have h2 : (((((xs.drop i).take k).map pt).map fun x => (x, ([] : List Nat))).all fun y => Nat.beq y.1.cells.length 2) = true := by
    rw [List.all_eq_true]
    intro y hy
    obtain ⟨x, hx, rfl⟩ := List.mem_map.1 hy
    obtain ⟨n, -, rfl⟩ := List.mem_map.1 hx
    rfl
  have hc : True ∧ i + k ≤ (xs.map pt).length := ⟨trivial, by rw [List.length_map]; exact h⟩
  unfold viewG
  simp only [flatN, AV.lt, Nat.not_lt_zero, decide_false, Bool.false_eq_true, if_false, hb]
  rw [if_pos hc]
  simp only [he, h1, h2, if_true, catT_nil]
  simp only [List.map_map, Function.comp_def, pts]
theorem clean_pts (l : List Pt) : cleanL (l.map pt) = true := by
  induction l with
  | nil => rfl
  | cons p l ih => simp only [List.map_cons, cleanL, ih, pt, AV.clean, Bool.and_self]
theorem c56' {u v : Pt} (hu : smallV u) (hv : smallV v) : CallsF Try.prog 56 [pt u, pt v] [] (.int .i64 (dot u v)) [] := by
  obtain ⟨⟨a1, a2⟩, a3, a4⟩ := hu
  obtain ⟨⟨b1, b2⟩, b3, b4⟩ := hv
  have m1 := mul_bd a1 a2 b1 b2
  have m2 := mul_bd a3 a4 b3 b4
  have e1 := wr (u.1 * v.1) (by omega) (by omega)
  have e2 := wr (u.2 * v.2) (by omega) (by omega)
  have e3 := wr (u.1 * v.1 + u.2 * v.2) (by omega) (by omega)
  refine callsF_cwx hm hf56 (by simp [cf56]) ?_
  simp only [cf56, argsAl]
  unfold pt
  refine CWx.r fun K hK => ?_
  simp (maxSteps := 4000000) only [amC, amX, dr3, dr4, AV.elem, AV.cells, AV.one, loadAV, faddrAV, binAV, storeAV, AV.putCells, AV.ref, if_true, if_false, Nat.reduceEqDiff, Nat.reduceAdd, Nat.reduceLT, Nat.reduceLeDiff, reduceCtorEq, ↓reduceIte, pickAV, lenAV, intAV, slcA, slcAV, iaddrAV, extAV, fldAV, eqCell, contAV, appendAV, maxI, minI, Option.some.injEq, catT, AV.cells, AV.elem, AV.one, List.all_cons, List.all_nil]
  refine hK _ _ _ nofun ?_
  clear hK K
  refine CWx.r fun K hK => ?_
  simp (maxSteps := 4000000) only [amC, amX, dr3, dr4, AV.elem, AV.cells, AV.one, loadAV, faddrAV, binAV, storeAV, AV.putCells, AV.ref, if_true, if_false, Nat.reduceEqDiff, Nat.reduceAdd, Nat.reduceLT, Nat.reduceLeDiff, reduceCtorEq, ↓reduceIte, pickAV, lenAV, intAV, slcA, slcAV, iaddrAV, extAV, fldAV, eqCell, contAV, appendAV, maxI, minI, Option.some.injEq, catT, AV.cells, e1, e2, e3]
  refine hK _ _ _ nofun ?_
  clear hK K
  exact CWx.ret fun al hal => finK_ext hal (finK_pure (.inr rfl) (xs := [.int .i64 (dot u v)]) (by simp [resRV, Am.get, dot]) rfl rfl)
end Go.Hull
end
section
set_option linter.unusedSimpArgs false
set_option linter.unusedVariables false
set_option maxHeartbeats 4000000
namespace Go.Hull
open Go Go.Am Go.Proofs

theorem viewG_ixT {hl : List Blk} {b g k : Nat} {nil frz : Bool} {xs v : List Nat} (hb : hget hl b = .row nil g frz 1 (ix xs)) (hv : xs.take k = v) (h : k ≤ xs.length) : viewG hl 6 (.sl b g 0 k) = some (ixV v, [b]) := by
  have := viewG_ix (i := 0) (k := k) hb (by omega)
  rw [List.drop_zero, hv] at this
  exact this
theorem viewG_ptsL {hl : List Blk} {b g k : Nat} {nil frz : Bool} {xs : List Pt} (hb : hget hl b = .row nil g frz 2 (xs.map pt)) (h : k = xs.length) : viewG hl 6 (.sl b g 0 k) = some (pts xs, [b]) := by
  have := viewG_pts (i := 0) (k := k) hb (by omega)
  rw [List.drop_zero, List.take_of_length_le (by omega)] at this
  exact this
theorem ltL_append (m : Nat) (a b : List AV) : ltL m (a ++ b) = (ltL m a && ltL m b) := by
  induction a with
  | nil => rfl
  | cons x a ih => simp only [List.cons_append, ltL, ih, Bool.and_assoc]
theorem flat_sv (vol : Bool) (v : List Nat) : flatN true 5 (.sv vol 1 (ix v)) = true := by
  simp only [flatN]
  induction v with
  | nil => rfl
  | cons n v ih => exact ih
theorem len_pts (l : List Pt) : lenAV (pts l) = some (.int .i64 (l.length : Int)) := by simp [pts, lenAV]
theorem ia_pts (h : Nat → Blk) (l : List Pt) (k : Int) (hk : 0 ≤ k ∧ k < (l.length : Int)) : iaddrAV h 2 k (pts l) = some (.rp false [.int .i64 (P l k.toNat).1, .int .i64 (P l k.toNat).2]) := by
  have h1 : k.toNat < l.length := by omega
  simp only [pts, iaddrAV, List.length_map, true_and, if_pos hk, get_pts (getp h1), Option.map_some, AV.cells, pt, P]
theorem ia_ptsD (h : Nat → Blk) (l : List Pt) (n : Nat) (k : Int) (hk : 0 ≤ k ∧ k < ((l.length - n : Nat) : Int)) : iaddrAV h 2 k (pts (l.drop n)) = some (.rp false [.int .i64 (P l (n + k.toNat)).1, .int .i64 (P l (n + k.toNat)).2]) := by
  rw [ia_pts h (l.drop n) k ⟨hk.1, by rw [List.length_drop]; exact hk.2⟩]
  simp only [P, List.getD_eq_getElem?_getD, List.getElem?_drop]
theorem cells_pt (p : Pt) : (pt p).cells = [.int .i64 p.1, .int .i64 p.2] := rfl
theorem ref_pts (l : List Pt) : (pts l).ref = [] := rfl
theorem ref_pt (p : Pt) : (pt p).ref = [] := rfl
theorem ref_ixV (v : List Nat) : (ixV v).ref = [] := rfl
theorem cont_ixV (h : Nat → Blk) (v : List Nat) : contAV h 1 (ixV v) = some (ix v) := rfl
theorem cont_pts (h : Nat → Blk) (l : List Pt) : contAV h 2 (pts l) = some (l.map pt) := rfl
theorem eqvA_pt (neg : Bool) (p q : Pt) : eqvA neg true [.i, .i] (pt p) (pt q) = some { v := .bool (if neg then !(decide (p = q)) else decide (p = q)) } := by
  have h : (p.1 == q.1 && (p.2 == q.2 && true)) = decide (p = q) := by
    obtain ⟨a, b⟩ := p
    obtain ⟨c, d⟩ := q
    simp [Prod.mk.injEq, ← Bool.decide_and]
    by_cases h1 : a = c <;> by_cases h2 : b = d <;> simp [h1, h2]
  simp only [eqvA, pt, eqCells, eqCell, if_true, Option.map_some]
  rw [h]
theorem put_pt (p : Pt) (a b : Int) : (pt p).putCells 0 [.int .i64 a, .int .i64 b] = pt (a, b) := rfl
theorem put_pt0 (p : Pt) (a : Int) : (pt p).putCells 0 [.int .i64 a] = pt (a, p.2) := rfl
theorem put_pt1 (p : Pt) (a : Int) : (pt p).putCells 1 [.int .i64 a] = pt (p.1, a) := rfl
theorem elem_pt (p : Pt) : (pt p).elem = true := rfl
theorem pair_eta (p : Pt) : (p.1, p.2) = p := rfl
theorem fold_pt2 (a b : Int) : AV.agg [.int .i64 a, .int .i64 b] = pt (a, b) := rfl
theorem elem_pts (l : List Pt) : (pts l).elem = true := rfl
theorem cells_pts (l : List Pt) : (pts l).cells = [pts l] := rfl
theorem elem_ixV (l : List Nat) : (ixV l).elem = true := rfl
theorem cells_ixV (l : List Nat) : (ixV l).cells = [ixV l] := rfl
theorem len_ixV (v : List Nat) : lenAV (ixV v) = some (.int .i64 (v.length : Int)) := by simp [ixV, lenAV, ix_length]
theorem ia_ixV (h : Nat → Blk) (v : List Nat) (k : Int) (hk : 0 ≤ k ∧ k < (v.length : Int)) : iaddrAV h 1 k (ixV v) = some (.rp false [.int .i64 ((v.getD k.toNat 0 : Nat) : Int)]) := by
  have h1 : k.toNat < v.length := by omega
  simp only [ixV, iaddrAV, ix_length, true_and, if_pos hk, ix_get v h1, Option.map_some, AV.cells, pt, P]
theorem ixg (v : List Nat) (k : Nat) (h : k < v.length) : (ix v)[k]? = some (.int .i64 ((v.getD k 0 : Nat) : Int)) := ix_get v h
theorem ptsg (l : List Pt) (k : Nat) (h : k < l.length) : (l.map pt)[k]? = some (pt (P l k)) := get_pts (getp h)
theorem one_ix (n : Nat) : AV.one (.int .i64 (n : Int)) = true := rfl
theorem ix_nil : ix [] = [] := rfl
theorem ix_snoc (xs : List Nat) (n : Nat) : ix xs ++ [AV.int .i64 (n : Int)] = ix (xs ++ [n]) := by simp [ix]
theorem pts_snoc (l : List Pt) (p : Pt) : l.map pt ++ [pt p] = (l ++ [p]).map pt := by simp
theorem slc_ixV (h : List Blk) (v : List Nat) (a : Nat) (ha : a ≤ v.length) : slcA h 1 (some (a : Int)) none (ixV v) = some ⟨ixV (v.drop a), []⟩ := by
  simp only [slcA, ixV, slcAV, if_true, Option.getD_some, Option.getD_none, ix_length]
  rw [if_pos (by omega)]
  simp only [Option.map_some, Int.toNat_natCast, ix_drop, ix_take]
  rw [List.take_of_length_le (by simp)]
theorem slc_pts (h : List Blk) (v : List Pt) (a : Nat) (ha : a ≤ v.length) : slcA h 2 (some (a : Int)) none (pts v) = some ⟨pts (v.drop a), []⟩ := by
  simp only [slcA, pts, slcAV, if_true, Option.getD_some, Option.getD_none, List.length_map]
  rw [if_pos (by omega)]
  simp only [Option.map_some, Int.toNat_natCast]
  rw [← List.map_drop, List.take_of_length_le (by simp; try omega)]
theorem map_take' {α β : Type} (f : α → β) (l : List α) (n : Nat) : (l.map f).take n = (l.take n).map f := List.map_take.symm
theorem map_drop' {α β : Type} (f : α → β) (l : List α) (n : Nat) : (l.map f).drop n = (l.drop n).map f := List.map_drop.symm
set_option linter.defProp false
def enc0 := And.intro @put_pt (And.intro @put_pt0 (And.intro @put_pt1 (And.intro @ref_pts (And.intro @ref_pt (And.intro @ref_ixV (And.intro @eqvA_pt (And.intro @cont_ixV (And.intro @cont_pts (And.intro @len_pts (And.intro @ia_ptsD (And.intro @ia_pts (And.intro @cells_pt (And.intro @elem_pt (And.intro @fold_pt2 (And.intro @pair_eta (And.intro @len_ixV (And.intro @ia_ixV (And.intro @ix_length (And.intro @ix_append (And.intro @ix_take (And.intro @ix_drop (And.intro @wr62 (And.intro @natAdd1 (And.intro @natAddN (And.intro @natSub1 (And.intro @natSubN (And.intro @tmodN (And.intro @tdivN (And.intro @toNat_cast (And.intro @Int.toNat_zero (And.intro @Int.natCast_nonneg (And.intro @ixg (And.intro @ptsg (And.intro @appB (And.intro @List.isEmpty_nil.{0} (And.intro @List.isEmpty_cons.{0} (And.intro @elem_pts (And.intro @cells_pts (And.intro @elem_ixV (And.intro @cells_ixV (And.intro @Bool.or_self (And.intro @Bool.false_or (And.intro @Bool.or_false (And.intro @or_true (And.intro @true_or (And.intro @Bool.false_and (And.intro @not_true_eq_false (And.intro @not_false_eq_true (And.intro @one_ix (And.intro @gX_tt (And.intro @gX_ff (And.intro @gX_tf (And.intro @gX_ft (And.intro @beq_self_eq_true.{0} (And.intro @all_ix (And.intro @ix_snoc (And.intro @pts_snoc (And.intro @bne_self_eq_false.{0} (@List.take_take.{0})))))))))))))))))))))))))))))))))))))))))))))))))))))))))))
def enc1 := And.intro @Nat.min_self (And.intro @List.length_map.{0,0} (And.intro @List.length_take.{0} (And.intro @slc_ixV (And.intro @slc_pts (And.intro @map_take' (@map_drop'))))))
def topN (l : List Pt) (d : Pt) : Nat → Int
  | 0 => dot (P l 0) d
  | i + 1 => maxI (topN l d i) (dot (P l i) d)
theorem ok_small {p : Pt} (h : okP p = true) : smallV p := by
  obtain ⟨⟨a, b⟩, c, d⟩ := okP_iff.1 h
  exact ⟨⟨by omega, by omega⟩, by omega, by omega⟩
theorem c61 (l : List Pt) (d : Pt) (hl : 0 < l.length) (hn : l.length < 4611686018427387904) (hs : ∀ p ∈ l, smallV p) (hd : smallV d) :
    CallsF Try.prog 61 [pts l, pt d] [] (.int .i64 (topN l d l.length)) [] := by
  have hsm : ∀ k, k < l.length → smallV (P l k) := fun k hk => hs _ (P_mem hk)
  refine callsF_cwx hm hf61 (by simp [cf61]) ?_
  simp only [cf61, argsAl]
  repeat' first
    | (refine hK _ _ _ (by first | exact fun h => Bool.noConfusion h | exact fun _ => rfl) ?_; clear hK K)
    | (refine CWx.r fun K hK => ?_; simp (maxSteps := 4000000) (disch := omega) only [dr0, dr1, dr2, dr3, dr4, if_true, if_false, Option.some.injEq, Nat.reduceEqDiff, Int.reduceToNat, Nat.reduceSub, Nat.reduceAdd, Nat.reduceMul, Nat.reduceLT, Nat.reduceLeDiff, reduceCtorEq, ↓reduceIte, catT, enc0, enc1, if_pos, if_neg])
    | refine CWx.go ?_
    | (apply RCx.view (fid := 56) (caps := []) rfl rfl; (focus ((simp only [evsA, evA_t, evA_c, Am.get, Nat.reduceEqDiff, ↓reduceIte, List.nil_append, List.cons_append, List.append_nil]; repeat' first | exact viewArgs_nil | apply viewArgs_cons | exact viewG_flat (flat_pts _ _) _ | exact viewG_flat (flat_ixV _ _) _ | exact viewG_flat (flat_sv _ _) _ | exact viewG_ixT rfl (by assumption) (by omega) | exact viewG_ptsL rfl (by first | omega | (simp; done) | (simp; omega)) | exact viewG_ix rfl (by first | omega | (simp; omega)) | exact viewG_flat rfl _; done))); (focus (refine c56' (hsm _ ?_) hd <;> first | omega | assumption)); (focus rfl); simp (maxSteps := 4000000) (disch := omega) only [dr0, dr1, dr2, dr3, dr4, if_true, if_false, Option.some.injEq, Nat.reduceEqDiff, Int.reduceToNat, Nat.reduceSub, Nat.reduceAdd, Nat.reduceMul, Nat.reduceLT, Nat.reduceLeDiff, reduceCtorEq, ↓reduceIte, catT, enc0, enc1, if_pos, if_neg])
    | (refine gX_split (fun hb => ?_) (fun hb => ?_) <;> (try simp only [hb]) <;> (try simp only [bset0, reduceCtorEq] at hb) <;> simp (maxSteps := 4000000) (disch := omega) only [dr0, dr1, dr2, dr3, dr4, if_true, if_false, Option.some.injEq, Nat.reduceEqDiff, Int.reduceToNat, Nat.reduceSub, Nat.reduceAdd, Nat.reduceMul, Nat.reduceLT, Nat.reduceLeDiff, reduceCtorEq, ↓reduceIte, catT, enc0, enc1, if_pos, if_neg])
    | (refine CWx.br rfl (fun hb => ?_) (fun hb => ?_) <;> first | exact Bool.noConfusion hb | (first | (simp only [bset0, reduceCtorEq] at hb; done) | ((try simp only [bset0, reduceCtorEq] at hb); first | contradiction | skip)))
    | (refine CWx.e fun K hK => ?_; simp (maxSteps := 4000000) (disch := omega) only [dr0, dr1, dr2, dr3, dr4, if_true, if_false, Option.some.injEq, Nat.reduceEqDiff, Int.reduceToNat, Nat.reduceSub, Nat.reduceAdd, Nat.reduceMul, Nat.reduceLT, Nat.reduceLeDiff, reduceCtorEq, ↓reduceIte, catT, enc0, enc1, if_pos, if_neg])
    | (refine CWx.block (id := 0) ?_; refine CWx.loopK (ι := Nat) [3, 13, 14] (fun i => l.length - i) (fun i => [(15, .int .i64 (i : Int)), (5, .int .i64 (topN l d i))]) (fun i => [.row false 0 false 2 [pt d]]) (fun i => i ≤ l.length) (fun i => by simp only [keepA, Am.get, List.cons_append, List.nil_append, Nat.reduceEqDiff, ↓reduceIte]; exact rfl) (0) ?_ ?_ (fun i hi => ?_); (focus ((try dsimp only) <;> (first | trivial | omega | (refine ⟨?_, ?_⟩ <;> first | omega | trivial | simp_all) | simp_all); done)); (focus (refine Fgt.mk' 1 (by simp) ?_ ?_ ?_ <;> simp [-List.map_take, -List.map_map, AV.isY, ltL_append, ix_nil, keepB, Am.get, AV.lt, ltL, lt_pts, lt_pt, lt_ixV, ltL_ix, ltL_pt, Blk.lt, ltB, topN]; done)); have Hi := hi; (skip))
    | refine CWx.seq ?_
    | refine CWx.block (id := 1) ?_
    | refine CWx.skip ?_
    | refine CWx.exit ?_
    | (refine CWx.ret fun al hal => finK_ext hal (finK_pure (.inr rfl) (by simp only [resRV, Am.get, Nat.reduceEqDiff, ↓reduceIte]; exact rfl) ?_ ?_); (focus (first | (rfl; done) | ((simp only [tupAV]; congr <;> omega); done) | (simp [tupAV, *]; done))); (focus (first | rfl | (simp [AV.allR, allRL, allRL_ix]; done))))
    | (intro al hal; refine ⟨i + 1, ?_, ?_, Fgt.ofx hal ?_⟩; (focus (first | omega | (dsimp only; omega))); (focus ((try dsimp only) <;> (first | trivial | omega | (refine ⟨?_, ?_⟩ <;> first | omega | trivial | simp_all) | simp_all); done)); (focus (refine Fgt.mk' 1 (by simp) ?_ ?_ ?_ <;> simp [-List.map_take, -List.map_map, AV.isY, ltL_append, ix_nil, keepB, Am.get, AV.lt, ltL, lt_pts, lt_pt, lt_ixV, ltL_ix, ltL_pt, Blk.lt, ltB, topN, topN]; done)))
theorem x_around0 : CallsF Try.prog 51 [pts []] [] (.sl 0 0 0 0) [.row false 0 false 1 []] := xFm_sound hm tOk Aw.ok0 20 _ _ _ _ _ (by kernel_rfl : xFm Aw.nm T Aw.ms0 1000 20 51 [.sv false 2 []] [] = some (.sl 0 0 0 0, [.row false 0 false 1 []]))
theorem hullI_nil : hullI [] = [] := rfl
theorem hull_mem {l : List Pt} : ∀ x ∈ hullI l, x < l.length := by
  by_cases hl : 0 < l.length
  · exact (hullT l hl).mem
  · obtain rfl : l = [] := List.eq_nil_of_length_eq_zero (by omega)
    intro x hx; rw [hullI_nil] at hx; cases hx
theorem hull_le {l : List Pt} : (hullI l).length ≤ l.length := by
  by_cases hl : 0 < l.length
  · exact (hullT l hl).le
  · obtain rfl : l = [] := List.eq_nil_of_length_eq_zero (by omega)
    exact Nat.le_refl _
/-- The vertices, and what lies behind them in memory. -/
theorem c51' (l : List Pt) (hn : l.length < 20) (hok : l.all okP = true) :
    ∃ (zs : List Nat), zs.take (hullI l).length = hullI l ∧ (hullI l).length ≤ zs.length ∧ CallsF Try.prog 51 [pts l] [] (.sl 0 0 0 (hullI l).length) [.row false 0 false 1 (ix zs)] := by
  by_cases hl : 0 < l.length
  · exact c51 l hl hn hok
  · obtain rfl : l = [] := List.eq_nil_of_length_eq_zero (by omega)
    exact ⟨[], rfl, Nat.le_refl _, x_around0⟩
theorem chk_ok {l : List Pt} (h : chk l = 0) : l.all okP = true := by
  unfold chk at h
  split at h
  · cases h
  · by_cases h' : l.all okP = true
    · exact h'
    · rw [if_neg h'] at h; cases h
theorem ok_P {l : List Pt} (h : l.all okP = true) : ∀ k, k < l.length → okP (P l k) = true := fun k hk => all_ok h hk
theorem ren_row_ix (σ : Nat → Nat) (n f : Bool) (g s : Nat) (zs : List Nat) : (Blk.row n g f s (ix zs)).ren σ = .row n g f s (ix zs) := by simp only [Blk.ren, renL_id (ix zs) (ltL_ix _ _)]
theorem ren_row_pt (σ : Nat → Nat) (n f : Bool) (g s : Nat) (zs : List Pt) : (Blk.row n g f s (zs.map pt)).ren σ = .row n g f s (zs.map pt) := by simp only [Blk.ren, renL_id (zs.map pt) (ltL_pt _ _)]
theorem clean_ix (n f : Bool) (g s : Nat) (zs : List Nat) : (Blk.row n g f s (ix zs)).clean = true := by simp only [Blk.clean, cleanL_ix]
theorem clean_ptr (n f : Bool) (g s : Nat) (zs : List Pt) : (Blk.row n g f s (zs.map pt)).clean = true := by simp only [Blk.clean, clean_pts]
theorem allUp {A : Nat → Prop} {i : Nat} (h : ∀ j, j < i → A j) (hi : A i) : ∀ j, j < i + 1 → A j := fun j hj => by
  by_cases e : j = i
  · rw [e]; exact hi
  · exact h j (by omega)
end Go.Hull
end
section
set_option linter.unusedSimpArgs false
set_option linter.unusedVariables false
set_option linter.defProp false
namespace Go.Am
open Go Go.RowKit

abbrev KY := List (Nat × AV) → List Blk → Option Exit → Prop
structure YCx (P : Program) (Y : Hdl) (f : Opd) (xs : List Opd) (dst : Option Nat) (bef : Nat) (l : List (Nat × AV)) (hl : List Blk) (st : Option Exit) (next : KY) : Prop where
  run : (evA l f = .yld ∧ st = none ∧ Y (evsA l xs) hl (fun res hl' => next (consO l dst (.bool res.isNone)) hl' res)) ∨ RCx P f xs dst bef l hl [] fun l hl _ => next l hl st
def RunYX (P : Program) (Y : Hdl) : List COp → List (Nat × AV) → List Blk → Option Exit → KY → Prop
  | [], l, hl, st, K => K l hl st
  | c :: cs, l, hl, st, K => match wantedA l c.guard with
    | none => False
    | some false => RunYX P Y cs (consO l c.dst (.tup [])) hl st K
    | some true => match c.op with
      | .call f xs => YCx P Y f xs c.dst c.bef l hl st fun l hl st => RunYX P Y cs l hl st K
      | op => match aopA op l hl with
        | none => False
        | some r => RunYX P Y cs (consO l c.dst r.v) (hsetL hl r.ups) st K
structure RYX (P : Program) (Y : Hdl) (ops : List COp) (l : List (Nat × AV)) (hl : List Blk) (st : Option Exit) (K : KY) : Prop where
  run : RunYX P Y ops l hl st K
theorem RYX_eq (P : Program) (Y : Hdl) (ops : List COp) (l : List (Nat × AV)) (hl : List Blk) (st : Option Exit) (K : KY) : RYX P Y ops l hl st K = RunYX P Y ops l hl st K := propext ⟨fun h => h.run, fun h => ⟨h⟩⟩
theorem RunYX.sound {P : Program} {Y : Hdl} (hY : Y.Mono) : ∀ (cs : List COp) (l : List (Nat × AV)) (hl : List Blk) (st : Option Exit) (K : KY), RunYX P Y cs l hl st K → ∀ al, get al = get l → RunY P Y cs al hl st fun s' st' => ∃ l', get s'.al = get l' ∧ K l' s'.hl st' := by
  intro cs
  induction cs with
  | nil => intro l hl st K h al hal; exact ⟨l, hal, h⟩
  | cons c cs ih =>
    intro l hl st K h al hal
    obtain ⟨op, dst, guard, bef⟩ := c
    have key : ∀ b, wantedA l guard = some b → wantedAV (get al) guard = some b := fun b hb => by
      unfold wantedA at hb
      unfold wantedAV
      cases guard with
      | none => exact hb
      | some q => obtain ⟨d, w⟩ := q; simp only [hal]; exact hb
    simp only [RunYX] at h
    simp only [RunY]
    cases hw : wantedA l guard with
    | none => rw [hw] at h; exact h.elim
    | some b =>
      rw [hw] at h
      rw [key b hw]
      cases b with
      | false => exact ih _ _ _ _ h _ (get_consO hal dst _)
      | true =>
        cases hc : isCall op with
        | true =>
          obtain ⟨f, xs, rfl⟩ : ∃ f xs, op = .call f xs := by cases op <;> first | (cases hc; done) | exact ⟨_, _, rfl⟩
          rcases h.run with ⟨h1, h2, h3⟩ | h1
          · refine .inl ⟨by rw [hal, evA_eq]; exact h1, h2, ?_⟩
            have : xs.map (·.ev (get al)) = evsA l xs := by rw [hal]; exact evsA_eq l xs
            simp only [this]
            exact hY _ _ _ _ (fun r hl' h4 => ih _ _ _ _ h4 _ (get_consO hal dst _)) h3
          · obtain ⟨fid, caps, T, r, W, h1, h2, h3, h4⟩ := h1.run
            exact .inr ⟨fid, caps, T, r, W, by rw [hal]; exact h1, by rw [hal]; exact h2, h3, ih _ _ _ _ h4 _ (get_consO hal dst r)⟩
        | false =>
          have h' : (match aopA op l hl with
            | none => False
            | some r => RunYX P Y cs (consO l dst r.v) (hsetL hl r.ups) st K) := by
            cases op <;> first | (cases hc; done) | exact h
          have e : aop op (get al) (hget hl) hl.length = aopA op l hl := by unfold aopA; rw [hal]
          have goal : (match aop op (get al) (hget hl) hl.length with
            | none => False
            | some r => RunY P Y cs (setO al dst r.v) (hsetL hl r.ups) st fun s' st' => ∃ l', get s'.al = get l' ∧ K l' s'.hl st') := by
            rw [e]
            cases hr : aopA op l hl with
            | none => rw [hr] at h'; exact h'.elim
            | some r => rw [hr] at h'; exact ih _ _ _ _ h' _ (get_consO hal dst r.v)
          cases op <;> first | (cases hc; done) | exact goal
structure CY (P : Program) (m0 : Nat) (Y : Hdl) (c : CCode) (s : St) (st : Option Exit) (K : Exit → St → Option Exit → Prop) : Prop where
  run : Y.Mono → YWp P m0 Y c s st K
structure CYx (P : Program) (m0 : Nat) (Y : Hdl) (c : CCode) (l : List (Nat × AV)) (hl : List Blk) (st : Option Exit) (K : Exit → St → Option Exit → Prop) : Prop where
  run : ∀ al, get al = get l → CY P m0 Y c ⟨al, hl⟩ st K
section
variable {P : Program} {m0 : Nat} {Y : Hdl} {K : Exit → St → Option Exit → Prop} {st : Option Exit}
theorem CY.seq {x y : CCode} {s : St} (h : CY P m0 Y x s st (ythenK K fun s' st' => CY P m0 Y y s' st' K)) : CY P m0 Y (.seq x y) s st K :=
  ⟨fun hY => YWp.mono hY x s st (fun e s' t h => by cases e <;> first | exact CY.run h hY | exact h) (h.run hY)⟩
theorem CYx.seq {x y : CCode} {l : List (Nat × AV)} {hl : List Blk} (h : CYx P m0 Y x l hl st (ythenK K fun s' st' => CY P m0 Y y s' st' K)) : CYx P m0 Y (.seq x y) l hl st K := ⟨fun al hal => CY.seq (h.run al hal)⟩
theorem CYx.block {id : Nat} {c : CCode} {l : List (Nat × AV)} {hl : List Blk} (h : CYx P m0 Y c l hl st (yblockK id K)) : CYx P m0 Y (.block id c) l hl st K := ⟨fun al hal => ⟨fun hY => (h.run al hal).run hY⟩⟩
theorem CYx.skip {l : List (Nat × AV)} {hl : List Blk} (h : ∀ al, get al = get l → K .normal ⟨al, hl⟩ st) : CYx P m0 Y .skip l hl st K := ⟨fun al hal => ⟨fun _ => h al hal⟩⟩
theorem CYx.exit {id : Nat} {l : List (Nat × AV)} {hl : List Blk} (h : ∀ al, get al = get l → K (.exit id) ⟨al, hl⟩ st) : CYx P m0 Y (.exit id) l hl st K := ⟨fun al hal => ⟨fun _ => h al hal⟩⟩
theorem CYx.ret {l : List (Nat × AV)} {hl : List Blk} (h : ∀ al, get al = get l → K .ret ⟨al, hl⟩ st) : CYx P m0 Y .ret l hl st K := ⟨fun al hal => ⟨fun _ => h al hal⟩⟩
theorem CYx.go {y : CCode} {l : List (Nat × AV)} {hl : List Blk} (h : CYx P m0 Y y l hl st K) : ∀ al, get al = get l → CY P m0 Y y ⟨al, hl⟩ st K := fun al hal => h.run al hal
theorem CYx.br {c : Opd} {x y : CCode} {l : List (Nat × AV)} {hl : List Blk} {b : Bool} (hc : evA l c = .bool b) (h1 : b = true → CYx P m0 Y x l hl st K) (h2 : b = false → CYx P m0 Y y l hl st K) : CYx P m0 Y (.cond c x y) l hl st K := ⟨fun al hal => ⟨fun hY => by
  have e : c.ev (get al) = .bool b := by rw [hal, evA_eq]; exact hc
  cases b with
  | true => simp only [YWp, e]; exact ((h1 rfl).run al hal).run hY
  | false => simp only [YWp, e]; exact ((h2 rfl).run al hal).run hY⟩⟩
theorem CYx.r {ops : List COp} {y : CCode} {l : List (Nat × AV)} {hl : List Blk} (h : ∀ K' : KY, (∀ l hl st, CYx P m0 Y y l hl st K → K' l hl st) → RYX P Y ops l hl st K') : CYx P m0 Y (.seq (.region false ops) y) l hl st K := ⟨fun al hal => ⟨fun hY => by
  have := RunYX.sound hY _ _ _ _ _ (h (fun l hl st => CYx P m0 Y y l hl st K) (fun l hl st h => h)).run al hal
  simp only [YWp, Bool.false_eq_true, if_false]
  exact RunY.mono hY _ _ _ _ (fun s t ⟨l', e, h1⟩ => (h1.run s.al e).run hY) this⟩⟩
theorem CYx.e {ops : List COp} {l : List (Nat × AV)} {hl : List Blk} (h : ∀ K' : KY, (∀ l hl st, (∀ al, get al = get l → K .normal ⟨al, hl⟩ st) → K' l hl st) → RYX P Y ops l hl st K') : CYx P m0 Y (.region false ops) l hl st K := ⟨fun al hal => ⟨fun hY => by
  have := RunYX.sound hY _ _ _ _ _ (h (fun l hl st => ∀ al, get al = get l → K .normal ⟨al, hl⟩ st) (fun l hl st h => h)).run al hal
  simp only [YWp, Bool.false_eq_true, if_false]
  exact RunY.mono hY _ _ _ _ (fun s t ⟨l', e, h1⟩ => h1 s.al e) this⟩⟩
/-- A loop in an iterator; what was yielded hasn't ended the loop outside. -/
theorem CYx.loopK {ι : Type} {c : CCode} {l : List (Nat × AV)} {hl : List Blk} (ks : List Nat) (μ : ι → Nat) (f : ι → List (Nat × AV)) (g : ι → List Blk) (Q : ι → Prop) {L : ι → List (Nat × AV)} (hL : ∀ i, f i ++ keepA l ks = L i)
    (i0 : ι) (hq : Q i0) (hs : Fgt m0 ⟨l, hl⟩ ⟨L i0, g i0⟩)
    (h : ∀ i, Q i → CYx P m0 Y c (L i) (g i) none (ythenK K fun s' st' => st' = none ∧ ∃ j, μ j < μ i ∧ Q j ∧ Fgt m0 s' ⟨L j, g j⟩)) : CYx P m0 Y (.loop c) l hl none K := ⟨fun al hal => ⟨fun hY => by
  intro X hX
  have hstep : ∀ i, Q i → (∀ j, μ j < μ i → Q j → ∀ s, Fgt m0 s ⟨L j, g j⟩ → X s none) → ∀ s, Fgt m0 s ⟨L i, g i⟩ → X s none := by
    intro i hq ih s hs
    obtain ⟨m, h0, h1, h2, h3⟩ := hs.ex
    refine hX s none (.inl ⟨m, L i, ⟨h0, h1, by rw [← h2]; exact h3⟩, ?_⟩)
    rw [← h2]
    refine YWp.mono hY _ _ _ (fun e s' t he => ?_) (((h i hq).run (L i) rfl).run hY)
    cases e <;> first | (obtain ⟨rfl, j, hj, hqj, hf⟩ := he; exact ih j hj hqj s' hf) | exact he
  have key : ∀ n i, μ i < n → Q i → ∀ s, Fgt m0 s ⟨L i, g i⟩ → X s none := by
    intro n
    induction n with
    | zero => intro i hi; omega
    | succ n ih => intro i hi hq s hs; exact hstep i hq (fun j hj hqj => ih j (by omega) hqj) s hs
  exact key (μ i0 + 1) i0 (Nat.lt_succ_self _) hq _ (Fgt.ofx hal hs)⟩⟩
end

section
variable {P : Program} {m0 : Nat} {K : Exit → St → Prop}
/-- The loop outside. -/
theorem CWx.range {f : Opd} {ps : List Nat} {x y : CCode} {l : List (Nat × AV)} {hl : List Blk} {fid : FuncId} {caps : List AV} {F : CFn} (hf : evA l f = .clo fid caps) (hF : compF P fid = some F) (hn : caps.length + 1 ≤ F.n)
    (h : ∀ al, get al = get l → ∀ Y, Y = Yh P al ps x y → CYx P hl.length Y F.code (argsAl 0 (.yld :: caps)) hl none (rangeK F.rvs hl.length al K)) : CWx P m0 true (.rangeF f ps x y) l hl K := ⟨fun al hal => ⟨by
  refine ⟨rfl, fid, caps, F, by rw [hal, evA_eq]; exact hf, hF, hn, ?_⟩
  exact ((h al hal _ rfl).run _ rfl).run (Yh.mono P al ps x y)⟩⟩
/-- A round of it. -/
theorem YCx.yield {al l0 : List (Nat × AV)} {ps : List Nat} {x y : CCode} {f : Opd} {xs : List Opd} {dst : Option Nat} {bef : Nat} {l : List (Nat × AV)} {hl : List Blk} {next : KY} (hal : get al = get l0) (hf : evA l f = .yld) {vs : List AV} (hv : evsA l xs = vs) (hlen : vs.length = ps.length)
    (h : CWx P hl.length false x (setPs l0 ps vs) hl fun e s1 => e = .normal ∧ CW P s1.hl.length false y s1 (bodyK fun res hl' => next (consO l dst (.bool res.isNone)) hl' res)) : YCx P (Yh P al ps x y) f xs dst bef l hl none next := ⟨.inl ⟨hf, rfl, by
  rw [hv]
  have hs : ∀ (ps : List Nat) (vs : List AV) (a b : List (Nat × AV)), get a = get b → get (setPs a ps vs) = get (setPs b ps vs) := by
    intro ps
    induction ps with
    | nil => intro vs a b h; exact h
    | cons p ps ih =>
      intro vs a b h
      cases vs with
      | nil => exact h
      | cons v vs => exact ih vs _ _ (by rw [get_set, get_set, h])
  refine ⟨hlen, CWp.mono _ _ _ _ (fun e s1 hh => ⟨hh.1, hh.2.run⟩) (h.run _ (hs ps vs al l0 hal)).run⟩⟩⟩
theorem YCx.call {Y : Hdl} {f : Opd} {xs : List Opd} {dst : Option Nat} {bef : Nat} {l : List (Nat × AV)} {hl : List Blk} {st : Option Exit} {next : KY} (h : RCx P f xs dst bef l hl [] fun l hl _ => next l hl st) : YCx P Y f xs dst bef l hl st next := ⟨.inr h⟩
/-- From the round's variables to its body. -/
theorem CWx.goY {tp : Bool} {y : CCode} {l : List (Nat × AV)} {hl : List Blk} {Q : Exit → St → Prop} (h : CWx P hl.length tp y l hl Q) : ∀ al, get al = get l → (Exit.normal = .normal ∧ CW P hl.length tp y ⟨al, hl⟩ Q) := fun al hal => ⟨rfl, h.run al hal⟩
end

def afterY (P : Program) (Y : Hdl) (cs : List COp) (op : AOp) (dst : Option Nat) (l : List (Nat × AV)) (hl : List Blk) (st : Option Exit) (K : KY) : Option Res → Prop
  | none => False
  | some r => RYX P Y cs (consO l dst r.v) (hsetL hl r.ups) st K
def gY (P : Program) (Y : Hdl) (v : AV) (w : Bool) (op : AOp) (dst : Option Nat) (bef : Nat) (cs : List COp) (l : List (Nat × AV)) (hl : List Blk) (st : Option Exit) (K : KY) : Prop :=
  match v with
  | .bool b => if b = w then RYX P Y (⟨op, dst, none, bef⟩ :: cs) l hl st K else RYX P Y cs (consO l dst (.tup [])) hl st K
  | .tup [] => RYX P Y cs (consO l dst (.tup [])) hl st K
  | _ => False
section
variable {P : Program} {Y : Hdl} {K : KY} (op : AOp) (dst : Option Nat) (bef : Nat) (cs : List COp) (l : List (Nat × AV)) (hl : List Blk) (st : Option Exit)
theorem afterY_some (v : AV) (W : List (Nat × Blk)) : afterY P Y cs op dst l hl st K (some ⟨v, W⟩) = RYX P Y cs (consO l dst v) (hsetL hl W) st K := rfl
theorem Y_end : RYX P Y [] l hl st K = K l hl st := by rw [RYX_eq]; rfl
theorem Y_cl (f : Opd) (xs : List Opd) : RYX P Y (⟨.call f xs, dst, none, bef⟩ :: cs) l hl st K = YCx P Y f xs dst bef l hl st fun l hl st => RYX P Y cs l hl st K := by simp only [RYX_eq]; rfl
theorem Y_g (d : Nat) (w : Bool) : RYX P Y (⟨op, dst, some (d, w), bef⟩ :: cs) l hl st K = gY P Y (get l d) w op dst bef cs l hl st K := by
  unfold gY
  simp only [RYX_eq, RunYX, wantedA]
  generalize get l d = v
  cases v <;> try rfl
  · rename_i b
    cases b <;> cases w <;> rfl
  · rename_i vs
    cases vs <;> rfl
theorem gY_tt : gY P Y (.bool true) true op dst bef cs l hl st K = RYX P Y (⟨op, dst, none, bef⟩ :: cs) l hl st K := rfl
theorem gY_ff : gY P Y (.bool false) false op dst bef cs l hl st K = RYX P Y (⟨op, dst, none, bef⟩ :: cs) l hl st K := rfl
theorem gY_tf : gY P Y (.bool true) false op dst bef cs l hl st K = RYX P Y cs (consO l dst (.tup [])) hl st K := rfl
theorem gY_ft : gY P Y (.bool false) true op dst bef cs l hl st K = RYX P Y cs (consO l dst (.tup [])) hl st K := rfl
theorem gY_no (w : Bool) : gY P Y (.tup []) w op dst bef cs l hl st K = RYX P Y cs (consO l dst (.tup [])) hl st K := rfl
theorem gY_split {b w : Bool} (h1 : b = true → gY P Y (.bool true) w op dst bef cs l hl st K) (h2 : b = false → gY P Y (.bool false) w op dst bef cs l hl st K) : gY P Y (.bool b) w op dst bef cs l hl st K := by
  cases b with
  | true => exact h1 rfl
  | false => exact h2 rfl
theorem Y_one (h : isCall op = false) : RYX P Y (⟨op, dst, none, bef⟩ :: cs) l hl st K = afterY P Y cs op dst l hl st K (aopA op l hl) := by
  cases op <;> first | (cases h; done) | skip
  all_goals
    rw [RYX_eq]
    simp only [RunYX, wantedA]
    unfold afterY
    simp only [RYX_eq]
    try rfl
end
section
variable {P : Program} {Y : Hdl} {K : KY} (dst : Option Nat) (bef : Nat) (cs : List COp) (l : List (Nat × AV)) (hl : List Blk) (st : Option Exit)
theorem Y_mv (x : Opd) : RYX P Y (⟨.mv x, dst, none, bef⟩ :: cs) l hl st K = afterY P Y cs (.mv x) dst l hl st K (aopA (.mv x) l hl) := Y_one _ dst bef cs l hl st rfl
theorem Y_smv (x : Opd) : RYX P Y (⟨.smv x, dst, none, bef⟩ :: cs) l hl st K = afterY P Y cs (.smv x) dst l hl st K (aopA (.smv x) l hl) := Y_one _ dst bef cs l hl st rfl
theorem Y_newnil (sz : Nat) : RYX P Y (⟨.newnil sz, dst, none, bef⟩ :: cs) l hl st K = afterY P Y cs (.newnil sz) dst l hl st K (aopA (.newnil sz) l hl) := Y_one _ dst bef cs l hl st rfl
theorem Y_pick (c : Opd) (a : Opd) (b : Opd) : RYX P Y (⟨.pick c a b, dst, none, bef⟩ :: cs) l hl st K = afterY P Y cs (.pick c a b) dst l hl st K (aopA (.pick c a b) l hl) := Y_one _ dst bef cs l hl st rfl
theorem Y_alloc (z : AV) : RYX P Y (⟨.alloc z, dst, none, bef⟩ :: cs) l hl st K = afterY P Y cs (.alloc z) dst l hl st K (aopA (.alloc z) l hl) := Y_one _ dst bef cs l hl st rfl
theorem Y_box (x : Opd) : RYX P Y (⟨.box x, dst, none, bef⟩ :: cs) l hl st K = afterY P Y cs (.box x) dst l hl st K (aopA (.box x) l hl) := Y_one _ dst bef cs l hl st rfl
theorem Y_build (z : List AV) (ps : List (Nat × Nat × Opd)) : RYX P Y (⟨.build z ps, dst, none, bef⟩ :: cs) l hl st K = afterY P Y cs (.build z ps) dst l hl st K (aopA (.build z ps) l hl) := Y_one _ dst bef cs l hl st rfl
theorem Y_bsl (sz : Nat) (xs : List Opd) : RYX P Y (⟨.bsl sz xs, dst, none, bef⟩ :: cs) l hl st K = afterY P Y cs (.bsl sz xs) dst l hl st K (aopA (.bsl sz xs) l hl) := Y_one _ dst bef cs l hl st rfl
theorem Y_load (agg : Bool) (sz : Nat) (x : Opd) : RYX P Y (⟨.load agg sz x, dst, none, bef⟩ :: cs) l hl st K = afterY P Y cs (.load agg sz x) dst l hl st K (aopA (.load agg sz x) l hl) := Y_one _ dst bef cs l hl st rfl
theorem Y_store (sz : Nat) (x : Opd) (v : Opd) : RYX P Y (⟨.store sz x v, dst, none, bef⟩ :: cs) l hl st K = afterY P Y cs (.store sz x v) dst l hl st K (aopA (.store sz x v) l hl) := Y_one _ dst bef cs l hl st rfl
theorem Y_nchk (x : Opd) : RYX P Y (⟨.nchk x, dst, none, bef⟩ :: cs) l hl st K = afterY P Y cs (.nchk x) dst l hl st K (aopA (.nchk x) l hl) := Y_one _ dst bef cs l hl st rfl
theorem Y_bin (o : BinOp) (x : Opd) (y : Opd) : RYX P Y (⟨.bin o x y, dst, none, bef⟩ :: cs) l hl st K = afterY P Y cs (.bin o x y) dst l hl st K (aopA (.bin o x y) l hl) := Y_one _ dst bef cs l hl st rfl
theorem Y_eqv (neg : Bool) (agg : Bool) (ks : List SK) (x : Opd) (y : Opd) : RYX P Y (⟨.eqv neg agg ks x y, dst, none, bef⟩ :: cs) l hl st K = afterY P Y cs (.eqv neg agg ks x y) dst l hl st K (aopA (.eqv neg agg ks x y) l hl) := Y_one _ dst bef cs l hl st rfl
theorem Y_neg (x : Opd) : RYX P Y (⟨.neg x, dst, none, bef⟩ :: cs) l hl st K = afterY P Y cs (.neg x) dst l hl st K (aopA (.neg x) l hl) := Y_one _ dst bef cs l hl st rfl
theorem Y_not (x : Opd) : RYX P Y (⟨.not x, dst, none, bef⟩ :: cs) l hl st K = afterY P Y cs (.not x) dst l hl st K (aopA (.not x) l hl) := Y_one _ dst bef cs l hl st rfl
theorem Y_conv (k : IntKind) (x : Opd) : RYX P Y (⟨.conv k x, dst, none, bef⟩ :: cs) l hl st K = afterY P Y cs (.conv k x) dst l hl st K (aopA (.conv k x) l hl) := Y_one _ dst bef cs l hl st rfl
theorem Y_ext (x : Opd) (i : Nat) : RYX P Y (⟨.ext x i, dst, none, bef⟩ :: cs) l hl st K = afterY P Y cs (.ext x i) dst l hl st K (aopA (.ext x i) l hl) := Y_one _ dst bef cs l hl st rfl
theorem Y_faddr (x : Opd) (off : Nat) : RYX P Y (⟨.faddr x off, dst, none, bef⟩ :: cs) l hl st K = afterY P Y cs (.faddr x off) dst l hl st K (aopA (.faddr x off) l hl) := Y_one _ dst bef cs l hl st rfl
theorem Y_fld (x : Opd) (off : Nat) (agg : Bool) (sz : Nat) : RYX P Y (⟨.fld x off agg sz, dst, none, bef⟩ :: cs) l hl st K = afterY P Y cs (.fld x off agg sz) dst l hl st K (aopA (.fld x off agg sz) l hl) := Y_one _ dst bef cs l hl st rfl
theorem Y_iaddr (sz : Nat) (x : Opd) (i : Opd) : RYX P Y (⟨.iaddr sz x i, dst, none, bef⟩ :: cs) l hl st K = afterY P Y cs (.iaddr sz x i) dst l hl st K (aopA (.iaddr sz x i) l hl) := Y_one _ dst bef cs l hl st rfl
theorem Y_iaddrA (n : Nat) (sz : Nat) (x : Opd) (i : Opd) : RYX P Y (⟨.iaddrA n sz x i, dst, none, bef⟩ :: cs) l hl st K = afterY P Y cs (.iaddrA n sz x i) dst l hl st K (aopA (.iaddrA n sz x i) l hl) := Y_one _ dst bef cs l hl st rfl
theorem Y_idxA (n : Nat) (sz : Nat) (agg : Bool) (x : Opd) (i : Opd) : RYX P Y (⟨.idxA n sz agg x i, dst, none, bef⟩ :: cs) l hl st K = afterY P Y cs (.idxA n sz agg x i) dst l hl st K (aopA (.idxA n sz agg x i) l hl) := Y_one _ dst bef cs l hl st rfl
theorem Y_slc (sz : Nat) (x : Opd) (lo : Option Opd) (hi : Option Opd) : RYX P Y (⟨.slc sz x lo hi, dst, none, bef⟩ :: cs) l hl st K = afterY P Y cs (.slc sz x lo hi) dst l hl st K (aopA (.slc sz x lo hi) l hl) := Y_one _ dst bef cs l hl st rfl
theorem Y_mks (sz : Nat) (b : Nat) (z : AV) (n : Opd) : RYX P Y (⟨.mks sz b z n, dst, none, bef⟩ :: cs) l hl st K = afterY P Y cs (.mks sz b z n) dst l hl st K (aopA (.mks sz b z n) l hl) := Y_one _ dst bef cs l hl st rfl
theorem Y_mkf (f : FuncId) (caps : List Opd) : RYX P Y (⟨.mkf f caps, dst, none, bef⟩ :: cs) l hl st K = afterY P Y cs (.mkf f caps) dst l hl st K (aopA (.mkf f caps) l hl) := Y_one _ dst bef cs l hl st rfl
theorem Y_len (x : Opd) : RYX P Y (⟨.len x, dst, none, bef⟩ :: cs) l hl st K = afterY P Y cs (.len x) dst l hl st K (aopA (.len x) l hl) := Y_one _ dst bef cs l hl st rfl
theorem Y_lenS (x : Opd) : RYX P Y (⟨.lenS x, dst, none, bef⟩ :: cs) l hl st K = afterY P Y cs (.lenS x) dst l hl st K (aopA (.lenS x) l hl) := Y_one _ dst bef cs l hl st rfl
theorem Y_lenC (n : Nat) : RYX P Y (⟨.lenC n, dst, none, bef⟩ :: cs) l hl st K = afterY P Y cs (.lenC n) dst l hl st K (aopA (.lenC n) l hl) := Y_one _ dst bef cs l hl st rfl
theorem Y_append (sz : Nat) (b : Nat) (x : Opd) (y : Opd) : RYX P Y (⟨.append sz b x y, dst, none, bef⟩ :: cs) l hl st K = afterY P Y cs (.append sz b x y) dst l hl st K (aopA (.append sz b x y) l hl) := Y_one _ dst bef cs l hl st rfl
theorem Y_idxS (x i : Opd) : RYX P Y (⟨.idxS x i, dst, none, bef⟩ :: cs) l hl st K = afterY P Y cs (.idxS x i) dst l hl st K (aopA (.idxS x i) l hl) := Y_one _ dst bef cs l hl st rfl
theorem Y_slcM (sz : Nat) (x hi mx : Opd) : RYX P Y (⟨.slcM sz x hi mx, dst, none, bef⟩ :: cs) l hl st K = afterY P Y cs (.slcM sz x hi mx) dst l hl st K (aopA (.slcM sz x hi mx) l hl) := Y_one _ dst bef cs l hl st rfl
theorem Y_clear (sz : Nat) (z : AV) (x : Opd) : RYX P Y (⟨.clear sz z x, dst, none, bef⟩ :: cs) l hl st K = afterY P Y cs (.clear sz z x) dst l hl st K (aopA (.clear sz z x) l hl) := Y_one _ dst bef cs l hl st rfl
theorem Y_mx (xs : List Opd) : RYX P Y (⟨.mx xs, dst, none, bef⟩ :: cs) l hl st K = afterY P Y cs (.mx xs) dst l hl st K (aopA (.mx xs) l hl) := Y_one _ dst bef cs l hl st rfl
theorem Y_mn (xs : List Opd) : RYX P Y (⟨.mn xs, dst, none, bef⟩ :: cs) l hl st K = afterY P Y cs (.mn xs) dst l hl st K (aopA (.mn xs) l hl) := Y_one _ dst bef cs l hl st rfl
end
/-- The end of an iterator. -/
theorem rangeEndN {K : Exit → St → Prop} {rvs : List RV} {n0 : Nat} {al al2 l0 : List (Nat × AV)} {hl H : List Blk} {e : Exit} (he : e = .normal ∨ e = .ret) (hr : (resRV al2 hl rvs).isSome = true) (hH : hl.take n0 = H) (hlt : ltB n0 H) (hal : get al = get l0) (h : ∀ al, get al = get l0 → K .normal ⟨al, H⟩) : rangeK rvs n0 al K e ⟨al2, hl⟩ none :=
  ⟨he, hr, .inl rfl, n0, Nat.le_refl _, by rw [hH]; exact ltB_mem hlt, by rw [hH]; exact h al hal⟩
theorem rangeEndR {K : Exit → St → Prop} {rvs : List RV} {n0 : Nat} {al al2 l0 : List (Nat × AV)} {hl H : List Blk} {e : Exit} (he : e = .normal ∨ e = .ret) (hr : (resRV al2 hl rvs).isSome = true) (hH : hl.take n0 = H) (hlt : ltB n0 H) (hal : get al = get l0) (h : ∀ al, get al = get l0 → K .ret ⟨al, H⟩) : rangeK rvs n0 al K e ⟨al2, hl⟩ (some .ret) :=
  ⟨he, hr, .inr (.inl rfl), n0, Nat.le_refl _, by rw [hH]; exact ltB_mem hlt, by rw [hH]; exact h al hal⟩
theorem rangeEndX {K : Exit → St → Prop} {rvs : List RV} {n0 id : Nat} {al al2 l0 : List (Nat × AV)} {hl H : List Blk} {e : Exit} (he : e = .normal ∨ e = .ret) (hr : (resRV al2 hl rvs).isSome = true) (hH : hl.take n0 = H) (hlt : ltB n0 H) (hal : get al = get l0) (h : ∀ al, get al = get l0 → K (.exit id) ⟨al, H⟩) : rangeK rvs n0 al K e ⟨al2, hl⟩ (some (.exit id)) :=
  ⟨he, hr, .inr (.inr ⟨id, rfl⟩), n0, Nat.le_refl _, by rw [hH]; exact ltB_mem hlt, by rw [hH]; exact h al hal⟩
/-- A round of it, with its variables told. -/
theorem YCx.yieldL {P : Program} {Y : Hdl} {al l0 L' : List (Nat × AV)} {ps : List Nat} {x y : CCode} {f : Opd} {xs : List Opd} {dst : Option Nat} {bef : Nat} {l : List (Nat × AV)} {hl : List Blk} {next : KY} (hY : Y = Yh P al ps x y) (hal : get al = get l0) (hf : evA l f = .yld) {vs : List AV} (hv : evsA l xs = vs) (hlen : vs.length = ps.length) (hL : setPs l0 ps vs = L')
    (h : CWx P hl.length false x L' hl fun e s1 => e = .normal ∧ CW P s1.hl.length false y s1 (bodyK fun res hl' => next (consO l dst (.bool res.isNone)) hl' res)) : YCx P Y f xs dst bef l hl none next := by
  subst hY
  exact YCx.yield hal hf hv hlen (by rw [hL]; exact h)
def drY := And.intro @Y_end (And.intro @Y_cl (And.intro @Y_g (And.intro @afterY_some (And.intro @gY_tt (And.intro @gY_ff (And.intro @gY_tf (And.intro @gY_ft (And.intro @gY_no (And.intro @Y_mv (And.intro @Y_smv (And.intro @Y_newnil (And.intro @Y_pick (And.intro @Y_alloc (And.intro @Y_box (And.intro @Y_build (And.intro @Y_bsl (And.intro @Y_load (And.intro @Y_store (And.intro @Y_nchk (And.intro @Y_bin (And.intro @Y_eqv (And.intro @Y_neg (And.intro @Y_not (And.intro @Y_conv (And.intro @Y_ext (And.intro @Y_faddr (And.intro @Y_fld (And.intro @Y_iaddr (And.intro @Y_iaddrA (And.intro @Y_idxA (And.intro @Y_slc (And.intro @Y_mks (And.intro @Y_mkf (And.intro @Y_len (And.intro @Y_lenS (And.intro @Y_lenC (And.intro @Y_append (And.intro @Y_idxS (And.intro @Y_slcM (And.intro @Y_clear (And.intro @Y_mx (@Y_mn))))))))))))))))))))))))))))))))))))))))))
end Go.Am
end
section
set_option linter.unusedSimpArgs false
set_option linter.unusedVariables false
set_option maxHeartbeats 4000000
namespace Go.Hull
open Go Go.Am Go.Proofs

theorem c26 {u v : Pt} (hu : smallV u) (hv : smallV v) : CallsF Try.prog 26 [pt u, pt v] [] (.int .i64 (dot u v)) [] := by
  obtain ⟨⟨a1, a2⟩, a3, a4⟩ := hu
  obtain ⟨⟨b1, b2⟩, b3, b4⟩ := hv
  have m1 := mul_bd a1 a2 b1 b2
  have m2 := mul_bd a3 a4 b3 b4
  refine callsF_cwx hm hf26 (by simp [cf26]) ?_
  simp only [cf26, argsAl]
  repeat' first
    | (refine hK _ _ _ (by first | exact fun h => Bool.noConfusion h | exact fun _ => rfl) ?_; clear hK K)
    | (refine CWx.r fun K hK => ?_; simp (maxSteps := 4000000) (disch := omega) only [dr0, dr1, dr2, dr3, dr4, if_true, if_false, Option.some.injEq, Nat.reduceEqDiff, Int.reduceToNat, Nat.reduceSub, Nat.reduceAdd, Nat.reduceMul, Nat.reduceLT, Nat.reduceLeDiff, reduceCtorEq, ↓reduceIte, catT, enc0, enc1, if_pos, if_neg])
    | refine CWx.go ?_
    | (refine gX_split (fun hb => ?_) (fun hb => ?_) <;> (try simp only [hb]) <;> (try simp only [bset0, reduceCtorEq] at hb) <;> simp (maxSteps := 4000000) (disch := omega) only [dr0, dr1, dr2, dr3, dr4, if_true, if_false, Option.some.injEq, Nat.reduceEqDiff, Int.reduceToNat, Nat.reduceSub, Nat.reduceAdd, Nat.reduceMul, Nat.reduceLT, Nat.reduceLeDiff, reduceCtorEq, ↓reduceIte, catT, enc0, enc1, if_pos, if_neg])
    | (refine CWx.br rfl (fun hb => ?_) (fun hb => ?_) <;> first | exact Bool.noConfusion hb | (first | (simp only [bset0, reduceCtorEq] at hb; done) | ((try simp only [bset0, reduceCtorEq] at hb); first | contradiction | skip)))
    | (refine CWx.e fun K hK => ?_; simp (maxSteps := 4000000) (disch := omega) only [dr0, dr1, dr2, dr3, dr4, if_true, if_false, Option.some.injEq, Nat.reduceEqDiff, Int.reduceToNat, Nat.reduceSub, Nat.reduceAdd, Nat.reduceMul, Nat.reduceLT, Nat.reduceLeDiff, reduceCtorEq, ↓reduceIte, catT, enc0, enc1, if_pos, if_neg])
    | refine CWx.seq ?_
    | refine CWx.skip ?_
    | refine CWx.exit ?_
    | (refine CWx.ret fun al hal => finK_ext hal (finK_pure (.inr rfl) (by simp only [resRV, Am.get, Nat.reduceEqDiff, ↓reduceIte]; exact rfl) ?_ ?_); (focus (first | (rfl; done) | ((simp only [tupAV]; congr <;> omega); done) | (simp [tupAV, *]; done))); (focus (first | rfl | (simp [AV.allR, allRL, allRL_ix]; done))))
theorem dot_bd {u v : Pt} (hu : smallV u) (hv : smallV v) : -80000000000 ≤ dot u v ∧ dot u v ≤ 80000000000 := by
  obtain ⟨⟨a1, a2⟩, a3, a4⟩ := hu
  obtain ⟨⟨b1, b2⟩, b3, b4⟩ := hv
  have m1 := mul_bd a1 a2 b1 b2
  have m2 := mul_bd a3 a4 b3 b4
  simp only [dot]
  omega
theorem neg_small {d : Pt} (hd : smallV d) : smallV (neg d) := by simp only [smallV, neg] at *; omega
def nrm (p q : Pt) : List Pt := [(-(sub q p).2, (sub q p).1), ((sub q p).2, -(sub q p).1)]
theorem nrm_length (p q : Pt) : (nrm p q).length = 2 := rfl
/-- Both normals, as an array. -/
def quad (d : Pt) : AV := .agg [.int .i64 (-d.2), .int .i64 d.1, .int .i64 d.2, .int .i64 (-d.1)]
theorem c95 {p q : Pt} (hp : okP p = true) (hq : okP q = true) : CallsF Try.prog 95 [pt p, pt q] [] (quad (sub q p)) [] := by
  have hs := sub_small hq hp
  have k := c57' hq hp
  obtain ⟨d, hd⟩ : ∃ d, d = sub q p := ⟨_, rfl⟩
  rw [← hd] at hs k ⊢
  simp only [smallV] at hs
  refine callsF_cwx hm hf95 (by simp [cf95]) ?_
  simp only [cf95, argsAl]
  repeat' first
    | (refine hK _ _ _ (by first | exact fun h => Bool.noConfusion h | exact fun _ => rfl) ?_; clear hK K)
    | (refine CWx.r fun K hK => ?_; simp (maxSteps := 4000000) (disch := omega) only [dr0, dr1, dr2, dr3, dr4, if_true, if_false, Option.some.injEq, Nat.reduceEqDiff, Int.reduceToNat, Nat.reduceSub, Nat.reduceAdd, Nat.reduceMul, Nat.reduceLT, Nat.reduceLeDiff, reduceCtorEq, ↓reduceIte, catT, enc0, enc1, if_pos, if_neg, Int.zero_sub])
    | refine CWx.go ?_
    | (apply RCx.view (fid := 57) (caps := []) rfl rfl; (focus ((simp only [evsA, evA_t, evA_c, Am.get, Nat.reduceEqDiff, ↓reduceIte, List.nil_append, List.cons_append, List.append_nil]; repeat' first | exact viewArgs_nil | apply viewArgs_cons | exact viewG_flat (flat_pts _ _) _ | exact viewG_flat (flat_ixV _ _) _ | exact viewG_flat (flat_sv _ _) _ | exact viewG_ixT rfl (by assumption) (by omega) | exact viewG_ptsL rfl (by first | omega | (simp; done) | (simp; omega)) | exact viewG_ix rfl (by first | omega | (simp; omega)) | exact viewG_flat rfl _; done))); (focus (refine k <;> first | omega | assumption)); (focus rfl); simp (maxSteps := 4000000) (disch := omega) only [dr0, dr1, dr2, dr3, dr4, if_true, if_false, Option.some.injEq, Nat.reduceEqDiff, Int.reduceToNat, Nat.reduceSub, Nat.reduceAdd, Nat.reduceMul, Nat.reduceLT, Nat.reduceLeDiff, reduceCtorEq, ↓reduceIte, catT, enc0, enc1, if_pos, if_neg, Int.zero_sub])
    | (refine gX_split (fun hb => ?_) (fun hb => ?_) <;> (try simp only [hb]) <;> (try simp only [bset0, reduceCtorEq] at hb) <;> simp (maxSteps := 4000000) (disch := omega) only [dr0, dr1, dr2, dr3, dr4, if_true, if_false, Option.some.injEq, Nat.reduceEqDiff, Int.reduceToNat, Nat.reduceSub, Nat.reduceAdd, Nat.reduceMul, Nat.reduceLT, Nat.reduceLeDiff, reduceCtorEq, ↓reduceIte, catT, enc0, enc1, if_pos, if_neg, Int.zero_sub])
    | (refine CWx.br rfl (fun hb => ?_) (fun hb => ?_) <;> first | exact Bool.noConfusion hb | (first | (simp only [bset0, reduceCtorEq] at hb; done) | ((try simp only [bset0, reduceCtorEq] at hb); first | contradiction | skip)))
    | (refine CWx.e fun K hK => ?_; simp (maxSteps := 4000000) (disch := omega) only [dr0, dr1, dr2, dr3, dr4, if_true, if_false, Option.some.injEq, Nat.reduceEqDiff, Int.reduceToNat, Nat.reduceSub, Nat.reduceAdd, Nat.reduceMul, Nat.reduceLT, Nat.reduceLeDiff, reduceCtorEq, ↓reduceIte, catT, enc0, enc1, if_pos, if_neg, Int.zero_sub])
    | refine CWx.seq ?_
    | refine CWx.skip ?_
    | refine CWx.exit ?_
    | (refine CWx.ret fun al hal => finK_ext hal (finK_pure (.inr rfl) (by simp only [resRV, Am.get, Nat.reduceEqDiff, ↓reduceIte]; exact rfl) ?_ ?_); (focus (first | (rfl; done) | ((simp only [tupAV]; congr <;> omega); done) | (simp [tupAV, *]; done))); (focus (first | rfl | (simp [AV.allR, allRL, allRL_ix]; done))))
end Go.Hull
end
section
set_option linter.unusedSimpArgs false
set_option linter.unusedVariables false
set_option maxHeartbeats 4000000
set_option maxRecDepth 100000
namespace Go.Hull
open Go Go.Am Go.Proofs

theorem allRL_pts (l : List Pt) (p : Nat → Nat → Bool) (q : Bool) : allRL p q (l.map pt) = true := by
  induction l with
  | nil => rfl
  | cons x xs ih => simp only [List.map_cons, allRL, ih, Bool.and_true]; rfl
end Go.Hull
end
section
set_option linter.unusedSimpArgs false
set_option linter.unusedVariables false
set_option maxHeartbeats 4000000
namespace Go.Hull
open Go Go.Am Go.Proofs

theorem lp_dot {w z : Pt} (hw : Lp w) (hz : Lp z) (h : turn w z = 0) : 0 ≤ dot w z := by
  obtain ⟨a, b⟩ := w
  obtain ⟨c, d⟩ := z
  simp only [Lp, turn, dot] at *
  by_cases ha : a = 0
  · subst ha
    have hb : 0 < b := by omega
    have hc : c = 0 := by
      have : b * c = 0 := by omega
      rcases Int.mul_eq_zero.1 this with h | h <;> omega
    subst hc
    have hd : 0 < d := by omega
    have := Int.mul_pos hb hd
    omega
  · have ha' : 0 < a := by omega
    by_cases hc : c = 0
    · subst hc
      have hd : 0 < d := by omega
      have : 0 < a * d := Int.mul_pos ha' hd
      omega
    · have hc' : 0 < c := by omega
      have hac := Int.mul_pos ha' hc'
      have e : (a * c) * (b * d) = (a * d) * (a * d) := by
        have : b * c = a * d := by omega
        grind
      have h1 : 0 ≤ (a * d) * (a * d) := by
        rcases Int.le_total 0 (a * d) with h | h
        · exact Int.mul_nonneg h h
        · exact Int.mul_nonneg_of_nonpos_of_nonpos h h
      have h2 : 0 ≤ b * d := Int.nonneg_of_mul_nonneg_right (by rw [e]; exact h1) hac
      omega
/-- A point of a segment. -/
theorem seg_dot {a b p : Pt} (h1 : left a b p = 0) (h2 : before p a = false) (h3 : before b p = false) : dot (sub a p) (sub b p) ≤ 0 := by
  rcases before_false h2 with e | ha
  · subst e
    simp [dot, sub]
  · rcases before_false h3 with e | hb
    · subst e; simp [dot, sub]
    · have := lp_dot (before_iff.1 ha) (before_iff.1 hb) (by
        have : turn (sub p a) (sub b p) = - left a b p := by simp only [left, turn, sub]; grind
        rw [this, h1]; rfl)
      have e : dot (sub a p) (sub b p) = - dot (sub p a) (sub b p) := by simp only [dot, sub]; grind
      omega
theorem take_succ_map {α : Type} (f : Nat → α) (v : List Nat) (i : Nat) (h : i < v.length) : (v.take (i + 1)).map f = (v.take i).map f ++ [f (v.getD i 0)] := by
  rw [List.take_add_one, List.getElem?_eq_getElem h, List.map_append]
  simp only [Option.toList_some, List.map_cons, List.map_nil, List.getD_eq_getElem?_getD, List.getElem?_eq_getElem h, Option.getD_some]
end Go.Hull
end
section
set_option linter.unusedVariables false
namespace Go.Hull

/-- An affine form. -/
def aff (A B C : Int) (p : Pt) : Int := A * p.1 + B * p.2 + C
theorem left_aff (a b q : Pt) : left a b q = aff (a.2 - b.2) (b.1 - a.1) (a.1 * b.2 - a.2 * b.1) q := by
  simp only [left, turn, sub, aff]; grind
theorem aff_neg (A B C : Int) (q : Pt) : - aff A B C q = aff (-A) (-B) (-C) q := by simp only [aff]; grind
theorem aff_add (A B C A' B' C' : Int) (q : Pt) : aff A B C q + aff A' B' C' q = aff (A + A') (B + B') (C + C') q := by simp only [aff]; grind
def betw (p a b : Pt) : Bool := decide (left a b p = 0) && decide (dot (sub a p) (sub b p) ≤ 0)
def inTri (p a b c : Pt) : Bool := decide (left a b c ≠ 0) && ((decide (0 ≤ left a b p) && (decide (0 ≤ left b c p) && decide (0 ≤ left c a p))) || (decide (left a b p ≤ 0) && (decide (left b c p ≤ 0) && decide (left c a p ≤ 0))))
/-- In the hull of a set of points. -/
def InP (D : Pt → Prop) (p : Pt) : Prop := D p ∨ (∃ a b, D a ∧ D b ∧ betw p a b = true) ∨ ∃ a b c, D a ∧ D b ∧ D c ∧ inTri p a b c = true
theorem betw_aff {A B C : Int} {p a b : Pt} (h : betw p a b = true) (ha : 0 ≤ aff A B C a) (hb : 0 ≤ aff A B C b) : 0 ≤ aff A B C p := by
  simp only [betw, Bool.and_eq_true, decide_eq_true_eq] at h
  obtain ⟨h1, h2⟩ := h
  obtain ⟨u, hu⟩ : ∃ u, u = sub a p := ⟨_, rfl⟩
  obtain ⟨v, hv⟩ : ∃ v, v = sub b p := ⟨_, rfl⟩
  rw [← hu, ← hv] at h2
  have ea : aff A B C a = aff A B C p + (A * u.1 + B * u.2) := by rw [hu]; simp only [aff, sub]; grind
  have eb : aff A B C b = aff A B C p + (A * v.1 + B * v.2) := by rw [hv]; simp only [aff, sub]; grind
  have t : turn u v = 0 := by rw [hu, hv]; have : turn (sub a p) (sub b p) = left a b p := by simp only [left, turn, sub]; grind
                              rw [this, h1]
  by_cases hv0 : v = (0, 0)
  · rw [eb, hv0] at hb; simpa using hb
  · have pos := dot_self_pos hv0
    have key : dot v v * (A * u.1 + B * u.2) = dot u v * (A * v.1 + B * v.2) := by
      obtain ⟨u1, u2⟩ := u
      obtain ⟨v1, v2⟩ := v
      simp only [turn, dot] at t ⊢
      grind
    have k1 : 0 ≤ dot v v * aff A B C a := Int.mul_nonneg (Int.le_of_lt pos) ha
    have k2 : 0 ≤ (- dot u v) * aff A B C b := Int.mul_nonneg (by omega) hb
    have e : dot v v * aff A B C a + (- dot u v) * aff A B C b = (dot v v - dot u v) * aff A B C p := by rw [ea, eb]; grind
    exact Int.nonneg_of_mul_nonneg_right (a := dot v v - dot u v) (by rw [← e]; omega) (by omega)
theorem tri_id (A B C : Int) (p a b c : Pt) : left a b c * aff A B C p = left b c p * aff A B C a + left c a p * aff A B C b + left a b p * aff A B C c := by
  obtain ⟨p1, p2⟩ := p
  obtain ⟨a1, a2⟩ := a
  obtain ⟨b1, b2⟩ := b
  obtain ⟨c1, c2⟩ := c
  simp only [left, turn, sub, aff]; grind
theorem tri_sum (p a b c : Pt) : left a b c = left b c p + left c a p + left a b p := by
  simp only [left, turn, sub]; grind
theorem inTri_aff {A B C : Int} {p a b c : Pt} (h : inTri p a b c = true) (ha : 0 ≤ aff A B C a) (hb : 0 ≤ aff A B C b) (hc : 0 ≤ aff A B C c) : 0 ≤ aff A B C p := by
  simp only [inTri, Bool.and_eq_true, Bool.or_eq_true, decide_eq_true_eq] at h
  obtain ⟨h0, h⟩ := h
  have e := tri_id A B C p a b c
  have s := tri_sum p a b c
  rcases h with ⟨x, y, z⟩ | ⟨x, y, z⟩
  · have k1 := Int.mul_nonneg y ha
    have k2 := Int.mul_nonneg z hb
    have k3 := Int.mul_nonneg x hc
    exact Int.nonneg_of_mul_nonneg_right (a := left a b c) (by rw [e]; omega) (by omega)
  · have k1 : 0 ≤ (- left b c p) * aff A B C a := Int.mul_nonneg (by omega) ha
    have k2 : 0 ≤ (- left c a p) * aff A B C b := Int.mul_nonneg (by omega) hb
    have k3 : 0 ≤ (- left a b p) * aff A B C c := Int.mul_nonneg (by omega) hc
    refine Int.nonneg_of_mul_nonneg_right (a := - left a b c) ?_ (by omega)
    have : -left a b c * aff A B C p = (-left b c p) * aff A B C a + (-left c a p) * aff A B C b + (-left a b p) * aff A B C c := by rw [Int.neg_mul, e]; grind
    rw [this]; omega
theorem InP.aff {D : Pt → Prop} {p : Pt} (h : InP D p) {A B C : Int} (hD : ∀ q, D q → 0 ≤ aff A B C q) : 0 ≤ aff A B C p := by
  rcases h with h | ⟨a, b, ha, hb, h⟩ | ⟨a, b, c, ha, hb, hc, h⟩
  · exact hD p h
  · exact betw_aff h (hD a ha) (hD b hb)
  · exact inTri_aff h (hD a ha) (hD b hb) (hD c hc)
theorem InP.pos {D : Pt → Prop} {p : Pt} (h : InP D p) {A B C : Int} (hD : ∀ q, D q → 0 < Hull.aff A B C q) : 0 < Hull.aff A B C p := by
  have := h.aff (A := A) (B := B) (C := C - 1) fun q hq => by have := hD q hq; simp only [Hull.aff] at *; omega
  simp only [Hull.aff] at *; omega
theorem InP.mono {D D' : Pt → Prop} {p : Pt} (h : InP D p) (hD : ∀ q, D q → D' q) : InP D' p := by
  rcases h with h | ⟨a, b, ha, hb, h⟩ | ⟨a, b, c, ha, hb, hc, h⟩
  · exact .inl (hD p h)
  · exact .inr (.inl ⟨a, b, hD a ha, hD b hb, h⟩)
  · exact .inr (.inr ⟨a, b, c, hD a ha, hD b hb, hD c hc, h⟩)
/-- Two lines that cross. -/
theorem cross_pt {a b c q : Pt} (ht : left a b c ≠ 0) (h1 : left a b q = 0) (h2 : left b c q = 0) : q = b := by
  have e1 : left a b c * (q.1 - b.1) = 0 := by
    have : left a b c * (q.1 - b.1) = left a b q * (c.1 - b.1) - left b c q * (b.1 - a.1) * 1 := by
      obtain ⟨a1, a2⟩ := a
      obtain ⟨b1, b2⟩ := b
      obtain ⟨c1, c2⟩ := c
      obtain ⟨q1, q2⟩ := q
      simp only [left, turn, sub]; grind
    rw [this, h1, h2]; simp
  have e2 : left a b c * (q.2 - b.2) = 0 := by
    have : left a b c * (q.2 - b.2) = left a b q * (c.2 - b.2) - left b c q * (b.2 - a.2) := by
      obtain ⟨a1, a2⟩ := a
      obtain ⟨b1, b2⟩ := b
      obtain ⟨c1, c2⟩ := c
      obtain ⟨q1, q2⟩ := q
      simp only [left, turn, sub]; grind
    rw [this, h1, h2]; simp
  have f1 := (Int.mul_eq_zero.1 e1).resolve_left ht
  have f2 := (Int.mul_eq_zero.1 e2).resolve_left ht
  exact Prod.ext (by omega) (by omega)
section
variable {l : List Pt} {v : List Nat}
/-- The i-th vertex, around and around. -/
def vx (l : List Pt) (v : List Nat) (i : Nat) : Pt := P l (v.getD (i % v.length) 0)
theorem vx_mem (T : HullT l v) (i : Nat) : vx l v i ∈ l := T.pmem (Nat.mod_lt _ T.ne)
theorem vx_lt {i : Nat} (h : i < v.length) : vx l v i = P l (v.getD i 0) := by unfold vx; rw [Nat.mod_eq_of_lt h]
theorem vx_big (T : HullT l v) (hn : 2 < v.length) (i : Nat) {p : Pt} (hp : p ∈ l) : 0 ≤ left (vx l v i) (vx l v (i + 1)) p := by
  have := T.big hn (i % v.length) (Nat.mod_lt _ T.ne) p hp
  unfold vx
  rwa [Nat.mod_add_mod] at this
theorem vx_turn (T : HullT l v) (hn : 2 < v.length) (i : Nat) : 0 < left (vx l v i) (vx l v (i + 1)) (vx l v (i + 2)) := by
  have := T.turns hn (i % v.length) (Nat.mod_lt _ T.ne)
  unfold vx
  rwa [Nat.mod_add_mod, Nat.mod_add_mod] at this
/-- A vertex is by itself: there is a form that is 0 there, and greater at all other points. -/
theorem extreme_big (T : HullT l v) (hn : 2 < v.length) (i : Nat) : ∃ A B C, aff A B C (vx l v (i + 1)) = 0 ∧ ∀ q ∈ l, q ≠ vx l v (i + 1) → 0 < aff A B C q := by
  obtain ⟨a, ha⟩ : ∃ a, a = vx l v i := ⟨_, rfl⟩
  obtain ⟨b, hb⟩ : ∃ b, b = vx l v (i + 1) := ⟨_, rfl⟩
  obtain ⟨c, hc⟩ : ∃ c, c = vx l v (i + 2) := ⟨_, rfl⟩
  have t := vx_turn T hn i
  rw [← ha, ← hb, ← hc] at t
  rw [← hb]
  refine ⟨(a.2 - b.2) + (b.2 - c.2), (b.1 - a.1) + (c.1 - b.1), (a.1 * b.2 - a.2 * b.1) + (b.1 * c.2 - b.2 * c.1), ?_, fun q hq hne => ?_⟩
  · rw [← aff_add, ← left_aff, ← left_aff, left_self2, left_self1]; rfl
  · rw [← aff_add, ← left_aff, ← left_aff]
    have g1 := vx_big T hn i hq
    have g2 := vx_big T hn (i + 1) hq
    rw [← ha, ← hb] at g1
    rw [← hb, show i + 1 + 1 = i + 2 from rfl, ← hc] at g2
    rcases Int.lt_or_eq_of_le g1 with h | h
    · omega
    · rcases Int.lt_or_eq_of_le g2 with h' | h'
      · omega
      · exact absurd (cross_pt (by omega) h.symm h'.symm) hne
end
end Go.Hull
end
