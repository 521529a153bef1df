/- The hull of points: laws.
   Conditions: none. -/
import Derived.Test.YtkbpkbjfphdgeaaHM4
import Derived.Test.YtkbpkbjfphdgeaaHW13
set_option linter.unusedVariables false
namespace Go.Hull

theorem lessB_eq (l : List Pt) (a b : Nat) : lessB l a b = before (P l a) (P l b) := by
  have : ∀ x y : Bool, (x = true ↔ y = true) → x = y := by decide
  apply this
  unfold lessB P
  generalize l.getD a (0, 0) = p
  generalize l.getD b (0, 0) = q
  simp only [before, Bool.or_eq_true, Bool.and_eq_true, decide_eq_true_eq, beq_iff_eq, cmpP, cmpI]
  by_cases h1 : p.1 < q.1
  · simp [h1]
  · by_cases h2 : q.1 < p.1
    · simp [h1, h2]; omega
    · have e : p.1 = q.1 := by omega
      by_cases h3 : p.2 < q.2
      · simp [e, h3]
      · by_cases h4 : q.2 < p.2
        · simp [e, h3, h4]
        · simp [e, h3, h4]
theorem sameB_iff (l : List Pt) (a b : Nat) : sameB l a b = true ↔ P l a = P l b := by
  unfold sameB eqP P
  generalize l.getD a (0, 0) = p
  generalize l.getD b (0, 0) = q
  simp only [Bool.and_true, Bool.and_eq_true, beq_iff_eq]
  exact ⟨fun h => Prod.ext h.1 h.2, fun h => by rw [h]; exact ⟨rfl, rfl⟩⟩

theorem before_false {p q : Pt} (h : before p q = false) : q = p ∨ before q p = true := by
  rcases before_total q p with h1 | h1 | h1
  · exact .inl h1
  · exact .inr h1
  · rw [h] at h1; cases h1

theorem squash_spec (l : List Pt) : ∀ (r : List Nat) (a : Nat), (a :: r).Pairwise (fun x y => before (P l y) (P l x) = false) →
    ((a :: squash (sameB l) a r).Pairwise (fun x y => before (P l x) (P l y) = true)) ∧ (∀ x ∈ a :: r, ∃ y ∈ a :: squash (sameB l) a r, P l y = P l x) ∧ (∀ y ∈ squash (sameB l) a r, y ∈ r) := by
  intro r
  induction r with
  | nil => intro a _; exact ⟨by simp [squash], fun x hx => ⟨x, by simpa [squash] using hx, rfl⟩, fun y hy => by simp [squash] at hy⟩
  | cons b r ih =>
    intro a h
    obtain ⟨h1, h2⟩ := List.pairwise_cons.1 h
    obtain ⟨i1, i2, i3⟩ := ih b h2
    simp only [squash]
    split
    · rename_i he
      have he' : P l b = P l a := (sameB_iff l b a).1 he
      refine ⟨?_, fun x hx => ?_, fun y hy => List.mem_cons_of_mem _ (i3 y hy)⟩
      · obtain ⟨j1, j2⟩ := List.pairwise_cons.1 i1
        exact List.pairwise_cons.2 ⟨fun y hy => by rw [← he']; exact j1 y hy, j2⟩
      · rcases List.mem_cons.1 hx with rfl | hx
        · exact ⟨x, by simp, rfl⟩
        · obtain ⟨y, hy, e⟩ := i2 x hx
          rcases List.mem_cons.1 hy with rfl | hy
          · exact ⟨a, by simp, by rw [← he', e]⟩
          · exact ⟨y, by simp [hy], e⟩
    · rename_i he
      have he' : ¬ P l b = P l a := fun e => he ((sameB_iff l b a).2 e)
      have hab : before (P l a) (P l b) = true := by
        rcases before_false (h1 b (by simp)) with e | e
        · exact absurd e.symm he'
        · exact e
      refine ⟨List.pairwise_cons.2 ⟨fun y hy => ?_, i1⟩, fun x hx => ?_, fun y hy => ?_⟩
      · rcases List.mem_cons.1 hy with rfl | hy
        · exact hab
        · exact before_trans hab ((List.pairwise_cons.1 i1).1 y hy)
      · rcases List.mem_cons.1 hx with rfl | hx
        · exact ⟨x, by simp, rfl⟩
        · obtain ⟨y, hy, e⟩ := i2 x hx
          exact ⟨y, List.mem_cons_of_mem _ hy, e⟩
      · rcases List.mem_cons.1 hy with rfl | hy
        · simp
        · exact List.mem_cons_of_mem _ (i3 y hy)

structure Dist (l : List Pt) (d : List Nat) : Prop where
  inc : (d.map (P l)).Pairwise (fun p q => before p q = true)
  cover : ∀ p ∈ l, p ∈ d.map (P l)
  mem : ∀ i ∈ d, i < l.length

theorem orderI_sorted (l : List Pt) : (orderI l).Pairwise (fun x y => before (P l y) (P l x) = false) := by
  have := insort_sorted (lessB l) (fun a b h => by rw [lessB_eq] at *; exact before_asymm h) (fun a b c h1 h2 => by
    rw [lessB_eq] at *
    cases h : before (P l a) (P l c) with
    | false => rfl
    | true =>
      rcases before_false h1 with e | e
      · rw [← e, h2] at h; cases h
      · have := before_trans e h; rw [h2] at this; cases this) (List.range l.length)
  unfold orderI
  exact this.imp fun {a b} h => by rw [← lessB_eq]; exact h

theorem dist (l : List Pt) : Dist l (distI l) := by
  have hs := orderI_sorted l
  have hm : ∀ i, i ∈ orderI l ↔ i < l.length := fun i => by unfold orderI; rw [insort_mem, List.mem_range]
  have key : ∀ p ∈ l, ∃ i, i ∈ orderI l ∧ P l i = p := fun p hp => by
    obtain ⟨i, hi, e⟩ := List.getElem_of_mem hp
    exact ⟨i, (hm i).2 hi, by unfold P; rw [List.getD_eq_getElem?_getD, List.getElem?_eq_getElem hi, e]; rfl⟩
  unfold distI compI
  cases ho : orderI l with
  | nil =>
    rw [ho] at hm key
    refine ⟨by simp [compact], fun p hp => ?_, fun i hi => by simp [compact] at hi⟩
    obtain ⟨i, hi, -⟩ := key p hp
    simp at hi
  | cons a r =>
    rw [ho] at hs hm key
    rw [compact_take]
    obtain ⟨i1, i2, i3⟩ := squash_spec l r a hs
    refine ⟨List.pairwise_map.2 i1, fun p hp => ?_, fun i hi => (hm i).1 ?_⟩
    · obtain ⟨i, hi, e⟩ := key p hp
      obtain ⟨y, hy, e2⟩ := i2 i hi
      exact List.mem_map.2 ⟨y, hy, by rw [e2, e]⟩
    · rcases List.mem_cons.1 hi with rfl | hi
      · simp
      · exact List.mem_cons_of_mem _ (i3 i hi)

theorem pop_map (l : List Pt) (i : Nat) : ∀ (st : List Nat), (pop l i st).map (P l) = popP (P l i) (st.map (P l)) := by
  intro st
  induction st with
  | nil => rfl
  | cons b st ih =>
    cases st with
    | nil => rfl
    | cons a r =>
      simp only [pop, List.map_cons, popP]
      simp only [List.map_cons] at ih
      by_cases h : left (l.getD a (0, 0)) (l.getD b (0, 0)) (l.getD i (0, 0)) ≤ 0
      · rw [if_pos h, if_pos (show left (P l a) (P l b) (P l i) ≤ 0 from h), ih]
      · rw [if_neg h, if_neg (show ¬ left (P l a) (P l b) (P l i) ≤ 0 from h)]
        rfl
theorem chain_map (l : List Pt) (ord : List Nat) : (chainS l ord).map (P l) = chainP (ord.map (P l)) := by
  have : ∀ (ord st : List Nat), (ord.foldl (fun st i => i :: pop l i st) st).map (P l) = (ord.map (P l)).foldl (fun st p => p :: popP p st) (st.map (P l)) := by
    intro ord
    induction ord with
    | nil => intro st; rfl
    | cons o ord ih => intro st; simp only [List.foldl_cons, List.map_cons]; rw [ih, List.map_cons, pop_map]
  exact this ord []
theorem popP_neg (p : Pt) : ∀ (st : List Pt), (popP p st).map neg = popP (neg p) (st.map neg) := by
  intro st
  induction st with
  | nil => rfl
  | cons b st ih =>
    cases st with
    | nil => rfl
    | cons a r =>
      simp only [popP, List.map_cons, left_neg]
      simp only [List.map_cons] at ih
      split
      · rw [ih]
      · rfl
theorem chainP_neg (ps : List Pt) : (chainP ps).map neg = chainP (ps.map neg) := by
  have : ∀ (ps st : List Pt), (ps.foldl (fun st p => p :: popP p st) st).map neg = (ps.map neg).foldl (fun st p => p :: popP p st) (st.map neg) := by
    intro ps
    induction ps with
    | nil => intro st; rfl
    | cons o ps ih => intro st; simp only [List.foldl_cons, List.map_cons]; rw [ih, List.map_cons, popP_neg]
  exact this ps []

theorem revI_eq {l : List Pt} (hl : 0 < l.length) : revI l = (distI l).reverse := by
  obtain ⟨a1, a2, a3, a4⟩ := compI_spec hl
  unfold revI distI
  exact rv_take (by omega)
end Go.Hull
