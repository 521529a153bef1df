/- Two chains make a hull: laws.
   Conditions: none. -/
import Derived.Test.YtkbpkbjfphdgeaaHM1
set_option linter.unusedVariables false
namespace Go.Hull

structure Ch (D : Pt → Prop) (A : Nat → Pt) (x : Nat) : Prop where
  up : ∀ i, i < x → before (A i) (A (i + 1)) = true
  edge : ∀ i, i < x → ∀ q, D q → 0 ≤ left (A i) (A (i + 1)) q
  turns : ∀ i, i + 1 < x → 0 < left (A i) (A (i + 1)) (A (i + 2))
  mem : ∀ i, i ≤ x → D (A i)
  first : ∀ q, D q → q = A 0 ∨ before (A 0) q = true
  last : ∀ q, D q → q = A x ∨ before q (A x) = true

theorem Ch.lt {D : Pt → Prop} {A : Nat → Pt} {x : Nat} (h : Ch D A x) {i : Nat} : ∀ {k : Nat}, i < k → k ≤ x → before (A i) (A k) = true := by
  intro k
  induction k with
  | zero => intro h1; omega
  | succ k ih =>
    intro h1 h2
    by_cases hk : i = k
    · subst hk; exact h.up i (by omega)
    · exact before_trans (ih (by omega) (by omega)) (h.up k (by omega))

theorem Chn.ix {D : Pt → Prop} {st : List Pt} (h : Chn D st) : (∀ i, i + 1 < st.length → before (st.getD (st.length - 1 - i) (0, 0)) (st.getD (st.length - 1 - (i + 1)) (0, 0)) = true ∧ ∀ q, D q → 0 ≤ left (st.getD (st.length - 1 - i) (0, 0)) (st.getD (st.length - 1 - (i + 1)) (0, 0)) q) ∧
    (∀ i, i + 2 < st.length → 0 < left (st.getD (st.length - 1 - i) (0, 0)) (st.getD (st.length - 1 - (i + 1)) (0, 0)) (st.getD (st.length - 1 - (i + 2)) (0, 0))) := by
  induction h with
  | one p => exact ⟨fun i hi => by simp at hi, fun i hi => by simp at hi⟩
  | @two a b h1 h2 =>
    refine ⟨fun i hi => ?_, fun i hi => by simp only [List.length_cons, List.length_nil] at hi; omega⟩
    simp only [List.length_cons, List.length_nil] at hi
    obtain rfl : i = 0 := by omega
    exact ⟨h1, h2⟩
  | @more a b c r h1 h2 h3 h4 ih =>
    simp only [List.length_cons] at ih ⊢
    obtain ⟨i1, i2⟩ := ih
    have sh : ∀ i, i < r.length + 1 + 1 → (c :: b :: a :: r).getD (r.length + 1 + 1 + 1 - 1 - i) (0, 0) = (b :: a :: r).getD (r.length + 1 + 1 - 1 - i) (0, 0) := by
      intro i hi
      rw [show r.length + 1 + 1 + 1 - 1 - i = (r.length + 1 + 1 - 1 - i) + 1 by omega]
      simp
    have tp : (c :: b :: a :: r).getD (r.length + 1 + 1 + 1 - 1 - (r.length + 1 + 1)) (0, 0) = c := by
      rw [show r.length + 1 + 1 + 1 - 1 - (r.length + 1 + 1) = 0 by omega]; rfl
    have tb : (b :: a :: r).getD (r.length + 1 + 1 - 1 - (r.length + 1)) (0, 0) = b := by
      rw [show r.length + 1 + 1 - 1 - (r.length + 1) = 0 by omega]; rfl
    have ta : (b :: a :: r).getD (r.length + 1 + 1 - 1 - r.length) (0, 0) = a := by
      rw [show r.length + 1 + 1 - 1 - r.length = 1 by omega]; rfl
    refine ⟨fun i hi => ?_, fun i hi => ?_⟩
    · by_cases hk : i = r.length + 1
      · subst hk
        rw [sh _ (by omega), tb, tp]
        exact ⟨h1, h2⟩
      · rw [sh _ (by omega), sh _ (by omega)]
        exact i1 i (by omega)
    · by_cases hk : i = r.length
      · subst hk
        rw [sh _ (by omega), sh _ (by omega), tp, ta, tb]
        exact h3
      · rw [sh _ (by omega), sh _ (by omega), sh _ (by omega)]
        exact i2 i (by omega)

theorem Ready.ch {ps st : List Pt} (h : Ready ps st) : Ch (· ∈ ps) (fun i => st.getD (st.length - 1 - i) (0, 0)) (st.length - 1) := by
  have hne : 0 < st.length := by
    cases st with
    | nil => have := h.chn; cases this
    | cons a r => simp
  obtain ⟨i1, i2⟩ := h.chn.ix
  have gm : ∀ k, k < st.length → st.getD k (0, 0) ∈ st := fun k hk => by rw [List.getD_eq_getElem?_getD, List.getElem?_eq_getElem hk]; simp
  refine ⟨fun i hi => (i1 i (by omega)).1, fun i hi => (i1 i (by omega)).2, fun i hi => i2 i (by omega), fun i hi => h.mem _ (gm _ (by omega)), fun q hq => ?_, fun q hq => ?_⟩
  · refine h.last _ ?_ q hq
    simp only [Nat.sub_zero]
    rw [List.getLast?_eq_getElem?, List.getD_eq_getElem?_getD, List.getElem?_eq_getElem (by omega)]
    simp
  · refine h.top _ ?_ q hq
    simp only [Nat.sub_self]
    cases st with
    | nil => simp at hne
    | cons a r => rfl

def neg (p : Pt) : Pt := (-p.1, -p.2)
theorem neg_neg' (p : Pt) : neg (neg p) = p := by simp [neg]
theorem left_neg (a b c : Pt) : left (neg a) (neg b) (neg c) = left a b c := by simp only [left, turn, sub, neg]; grind
theorem before_neg (a b : Pt) : before (neg a) (neg b) = before b a := by
  have : ∀ x y : Bool, (x = true ↔ y = true) → x = y := by decide
  apply this
  rw [before_iff, before_iff]
  simp only [Lp, sub, neg]; omega

/-- The lower chain A, the upper chain B (taken from the greatest point on), and all points D. -/
structure Two (D : Pt → Prop) (A B : Nat → Pt) (x y : Nat) : Prop where
  lo : Ch D A x
  hi : Ch (fun q => D (neg q)) (fun i => neg (B i)) y
  x1 : 0 < x
  y1 : 0 < y

variable {D : Pt → Prop} {A B : Nat → Pt} {x y : Nat}

theorem Two.memB (h : Two D A B x y) {j : Nat} (hj : j ≤ y) : D (B j) := by have := h.hi.mem j hj; simpa only [neg_neg'] using this
theorem Two.edgeB (h : Two D A B x y) {j : Nat} (hj : j < y) {q : Pt} (hq : D q) : 0 ≤ left (B j) (B (j + 1)) q := by
  have := h.hi.edge j hj (neg q) (by simpa only [neg_neg'] using hq)
  simpa only [left_neg] using this
theorem Two.turnB (h : Two D A B x y) {j : Nat} (hj : j + 1 < y) : 0 < left (B j) (B (j + 1)) (B (j + 2)) := by
  have := h.hi.turns j hj
  simpa only [left_neg] using this
theorem Two.ltB (h : Two D A B x y) {i j : Nat} (hij : i < j) (hj : j ≤ y) : before (B j) (B i) = true := by
  have := h.hi.lt hij hj
  simpa only [before_neg] using this
theorem Two.join1 (h : Two D A B x y) : A x = B 0 := by
  rcases h.lo.last _ (h.memB (Nat.zero_le _)) with e | e
  · exact e.symm
  · rcases h.hi.first (neg (A x)) (by simpa only [neg_neg'] using h.lo.mem x (Nat.le_refl _)) with e' | e'
    · have := congrArg neg e'; simpa only [neg_neg'] using this
    · rw [before_neg] at e'; rw [before_asymm e] at e'; cases e'
theorem Two.join2 (h : Two D A B x y) : B y = A 0 := by
  rcases h.lo.first _ (h.memB (Nat.le_refl _)) with e | e
  · exact e
  · rcases h.hi.last (neg (A 0)) (by simpa only [neg_neg'] using h.lo.mem 0 (Nat.zero_le _)) with e' | e'
    · have := congrArg neg e'; simpa only [neg_neg'] using this.symm
    · rw [before_neg] at e'; rw [before_asymm e] at e'; cases e'

/-- At the greatest point: a left turn, or all on one line. -/
theorem junction {a p b : Pt} (ha : before a p = true) (hb : before b p = true) (hp : ∀ q, D q → q = p ∨ before q p = true) (h1 : ∀ q, D q → 0 ≤ left a p q) (h2 : ∀ q, D q → 0 ≤ left p b q) (hD : D b) :
    0 < left a p b ∨ ∀ q, D q → turn (sub p a) (sub p q) = 0 := by
  rcases Int.lt_or_eq_of_le (h1 b hD) with h | h
  · exact .inl h
  · refine .inr fun q hq => ?_
    rcases hp q hq with rfl | hqp
    · simp only [turn, sub]; grind
    · have e1 : left a p q = - turn (sub p a) (sub p q) := left_eq' a p q
      have e2 : left p b q = turn (sub p b) (sub p q) := by simp only [left, turn, sub]; grind
      have e3 : left a p b = - turn (sub p a) (sub p b) := left_eq' a p b
      have k1 := h1 q hq
      have k2 := h2 q hq
      have k := turn_trans (u := sub p a) (v := sub p b) (w := sub p q) (before_iff.1 ha) (before_iff.1 hb) (before_iff.1 hqp) (by omega) (by omega)
      omega

theorem flat_left {u p : Pt} (hu : Lp u) (h : ∀ q, D q → turn u (sub p q) = 0) {a b c : Pt} (ha : D a) (hb : D b) (hc : D c) : left a b c = 0 := by
  have e1 : turn u (sub b a) = turn u (sub p a) - turn u (sub p b) := by simp only [turn, sub]; grind
  have e2 : turn u (sub c a) = turn u (sub p a) - turn u (sub p c) := by simp only [turn, sub]; grind
  exact turn_zero hu (by rw [e1, h a ha, h b hb]; rfl) (by rw [e2, h a ha, h c hc]; rfl)

theorem Two.not_flat (h : Two D A B x y) (hn : 2 < x + y) (hf : ∀ a b c, D a → D b → D c → left a b c = 0) : False := by
  by_cases hx : 1 < x
  · have := h.lo.turns 0 (by omega)
    rw [hf _ _ _ (h.lo.mem _ (by omega)) (h.lo.mem _ (by omega)) (h.lo.mem _ (by omega))] at this
    omega
  · have hy : 1 < y := by omega
    have := h.turnB (j := 0) (by omega)
    rw [hf _ _ _ (h.memB (by omega)) (h.memB (by omega)) (h.memB (by omega))] at this
    omega

theorem Two.turn1 (h : Two D A B x y) (hn : 2 < x + y) : 0 < left (A (x - 1)) (A x) (B 1) := by
  have x1 := h.x1
  have y1 := h.y1
  have e : x - 1 + 1 = x := by omega
  have hb : before (A (x - 1)) (A x) = true := h.lo.lt (by omega) (Nat.le_refl _)
  have hb' : before (B 1) (A x) = true := by rw [h.join1]; exact h.ltB (by omega) y1
  rcases junction (D := D) hb hb' h.lo.last (fun q hq => by have := h.lo.edge (x - 1) (by omega) q hq; rwa [e] at this) (fun q hq => by have := h.edgeB (j := 0) y1 hq; rwa [← h.join1] at this) (h.memB y1) with k | k
  · exact k
  · exact (h.not_flat hn fun a b c ha hb' hc => flat_left (before_iff.1 hb) k ha hb' hc).elim

theorem Two.turn2 (h : Two D A B x y) (hn : 2 < x + y) : 0 < left (B (y - 1)) (B y) (A 1) := by
  have x1 := h.x1
  have y1 := h.y1
  have e : y - 1 + 1 = y := by omega
  have hb : before (neg (B (y - 1))) (neg (B y)) = true := by rw [before_neg]; exact h.ltB (by omega) (Nat.le_refl _)
  have hb' : before (neg (A 1)) (neg (B y)) = true := by rw [before_neg, h.join2]; exact h.lo.lt (by omega) x1
  rcases junction (D := fun q => D (neg q)) hb hb' h.hi.last (fun q hq => by have := h.hi.edge (y - 1) (by omega) q hq; rwa [e] at this) (fun q hq => by have := h.lo.edge 0 x1 (neg q) hq; rw [← left_neg, neg_neg', ← h.join2] at this; exact this) (by simpa only [neg_neg'] using h.lo.mem 1 x1) with k | k
  · rwa [left_neg] at k
  · exact (h.not_flat hn fun a b c ha hb' hc => by
      have := flat_left (D := fun q => D (neg q)) (before_iff.1 hb) k (a := neg a) (b := neg b) (c := neg c) (by simpa only [neg_neg'] using ha) (by simpa only [neg_neg'] using hb') (by simpa only [neg_neg'] using hc)
      rwa [left_neg] at this).elim

/-- No point belongs to both chains but the ends. -/
theorem Two.apart (h : Two D A B x y) {i j : Nat} (hi : i < x) (hj : j < y) : A i ≠ B j := by
  intro e
  by_cases hi0 : i = 0
  · subst hi0
    have := h.ltB hj (Nat.le_refl _)
    rw [h.join2, ← e, before_irrefl] at this
    cases this
  by_cases hj0 : j = 0
  · subst hj0
    have := h.lo.lt hi (Nat.le_refl _)
    rw [h.join1, ← e, before_irrefl] at this
    cases this
  obtain ⟨i, rfl⟩ : ∃ k, i = k + 1 := ⟨i - 1, by omega⟩
  obtain ⟨j, rfl⟩ : ∃ k, j = k + 1 := ⟨j - 1, by omega⟩
  have u1 := h.lo.up i (by omega)
  have u2 := h.lo.up (i + 1) hi
  have w1 := h.ltB (i := j) (j := j + 1) (by omega) (by omega)
  have w2 := h.ltB (i := j + 1) (j := j + 1 + 1) (by omega) (by omega)
  have t1 := h.lo.turns i (by omega)
  have t2 := h.turnB (j := j) (by omega)
  have f1 := h.lo.edge i (by omega) _ (h.memB (j := j + 1 + 1) (by omega))
  have f2 := h.lo.edge (i + 1) hi _ (h.memB (j := j) (by omega))
  rw [show i + 1 + 1 = i + 2 by omega] at *
  rw [show j + 1 + 1 = j + 2 by omega] at *
  obtain ⟨p, hp⟩ : ∃ p, p = A (i + 1) := ⟨_, rfl⟩
  rw [← e] at w1 w2 t2
  rw [← hp] at u1 u2 w1 w2 t1 t2 f1 f2
  have k1 := turn_trans (u := sub p (B (j + 2))) (v := sub p (A i)) (w := sub (A (i + 2)) p) (before_iff.1 w2) (before_iff.1 u1) (before_iff.1 u2)
    (by rw [left_eq'] at f1; rw [turn_anti]; exact f1) (by rw [← left_eq]; omega)
  have k2 := turn_trans (u := sub p (B (j + 2))) (v := sub (A (i + 2)) p) (w := sub (B j) p) (before_iff.1 w2) (before_iff.1 u2) (before_iff.1 w1) k1 (by simp only [left] at f2; exact f2)
  have e2 : left (B j) p (B (j + 2)) = - turn (sub p (B (j + 2))) (sub (B j) p) := by simp only [left, turn, sub]; grind
  omega
end Go.Hull
